/- KeyCompares: the walk. -/
import Derived.Test.YtbhklhpeppaadaaKeyKn
namespace Go.Proofs.Ytbhklhpeppaadaa
open Go.RowKit
set_option linter.unusedVariables false
set_option linter.unusedSimpArgs false
open ShaW Sha

def mixK (a b : Ky) (n j : Nat) : UInt8 := if j < n then a j else b j
theorem ite_yes {c : Prop} [Decidable c] {a b : Prop} (hc : c) (h : a) : ite c a b := by rw [if_pos hc]; exact h
theorem mixK_zero (a b : Ky) : mixK a b 0 = b := by funext j; simp [mixK]
theorem mixK_step (a b : Ky) (n : Nat) : (fun j => if j = n then a n else mixK a b n j) = mixK a b (n + 1) := by
  funext j
  unfold mixK
  by_cases h : j = n
  · subst h; rw [if_pos rfl, if_pos (by omega)]
  · rw [if_neg h]
    by_cases h2 : j < n
    · rw [if_pos h2, if_pos (by omega)]
    · rw [if_neg h2, if_neg (by omega)]
theorem cmpK_range (a b : Ky) : cmpK a b = -1 ∨ cmpK a b = 0 ∨ cmpK a b = 1 := cb_range _ _
theorem cmpK_anti (a b : Ky) : cmpK b a = -cmpK a b := cb_anti _ _
theorem cmpK_eq (a b : Ky) : keyEq a b = decide (cmpK a b = 0) := by
  rw [Bool.eq_iff_iff, keyEq_iff, decide_eq_true_eq]
  exact ⟨fun h => cmp_same a b h, fun h => cmp_zero h⟩
theorem less_text (a b : Ky) : Op.bytesLess (hexL a 32) (hexL b 32) = decide (cmpK a b < 0) := by
  rw [hexL_eq, hexL_eq, less_hex]; rfl
theorem toList_mk (l : List UInt8) : (⟨l.toArray⟩ : ByteArray).toList = l := by
  rw [ByteArray.toList_eq]
theorem run_less (P : Program) (a b : Ky) (W : World) : (Op.stringOp .lss ⟨(hexL a 32).toArray⟩ ⟨(hexL b 32).toArray⟩).run P W = .ok (.bool (decide (cmpK a b < 0))) W := by
  unfold Op.stringOp
  simp only [toList_mk, less_text]
  rfl

set_option maxRecDepth 100000 in
set_option maxHeartbeats 8000000 in
attribute [local go_sem ↓] wp_load_k in
theorem keyCompares_any (w : World) (a b c : Ky) (x : Nat) (hx : x < 256) :
    Calls Try.prog 4 #[.agg (bytesOf 32 a).toArray, .agg (bytesOf 32 b).toArray, .agg (bytesOf 32 c).toArray, .int .u8 (x : Int)] w fun e w' => e = .returned (.bool true) ∧ Below w.heap.size w w' := by
  obtain ⟨ca, hca⟩ : ∃ ca, (bytesOf 32 a).toArray = ca := ⟨_, rfl⟩
  obtain ⟨cb, hcb⟩ : ∃ cb, (bytesOf 32 b).toArray = cb := ⟨_, rfl⟩
  obtain ⟨cc, hcc⟩ : ∃ cc, (bytesOf 32 c).toArray = cc := ⟨_, rfl⟩
  rw [hca, hcb, hcc]
  have HCA := Lib.hid hca
  have HCB := Lib.hid hcb
  have HCC := Lib.hid hcc
  clear hca hcb hcc
  obtain ⟨s, hs⟩ : ∃ s, x % 33 = s := ⟨_, rfl⟩
  have hs33 : s < 33 := by omega
  have hsi : (x : Int) % 33 = (s : Int) := by omega
  go_enter Try.func4, Try.ntmps4
  go_wp2_with fail
  generalize hwa : World.alloc (World.alloc (World.alloc w _) _) _ = wa
  have hb0 : Below w.heap.size w wa := by rw [← hwa]; exact (((Below.refl _ _).alloc (Nat.le_refl _) _).alloc (by simp) _).alloc (by simp; omega) _
  have hga : Blk wa w.heap.size 25 (bytesOf 32 a).toArray := by rw [← hwa, HCA.out]; exact (Blk.new w _ ca).alloc _ |>.alloc _
  have hgb : Blk wa (w.heap.size + 1) 25 (bytesOf 32 b).toArray := by rw [← hwa, HCB.out]; exact Blk.alloc (heap_alloc_at _ _ _ (by simp)) _
  have hgc : Blk wa (w.heap.size + 1 + 1) 25 (bytesOf 32 c).toArray := by rw [← hwa, HCC.out]; exact heap_alloc_at _ _ _ (by simp)
  have HB0 := Lib.hid hb0
  have HGA := Lib.hid hga
  have HGB := Lib.hid hgb
  have HGC := Lib.hid hgc
  clear hwa hb0 hga hgb hgc hs
  go_loopw [9] (fun i wr => ∃ n : Nat, n ≤ s ∧ i = .int .i64 (n : Int) ∧ Below w.heap.size w wr ∧ Blk wr w.heap.size 25 (bytesOf 32 a).toArray ∧ Blk wr (w.heap.size + 1) 25 (bytesOf 32 (mixK a b n)).toArray ∧ Blk wr (w.heap.size + 1 + 1) 25 (bytesOf 32 c).toArray) (fun i _ => s - (intOf i).toNat)
  case atStart => exact ⟨0, by omega, rfl, HB0.out, HGA.out, by rw [mixK_zero]; exact HGB.out, HGC.out⟩
  case round =>
    obtain ⟨n, hn, rfl, hbr, hra, hrb, hrc⟩ := hrel
    have HBR := Lib.hid hbr
    have HRA := Lib.hid hra
    have HRB := Lib.hid hrb
    have HRC := Lib.hid hrc
    clear hbr hra hrb hrc
    rcases Nat.lt_or_ge n s with hlt | hge
    · skip
      have hlt' : decide ((n : Int) < s) = true := by simp; omega
      have hlt2 : decide ((n : Int) < 32) = true := by simp; omega
      have hn0 : (0 : Int) ≤ n := by omega
      have hn32 : (n : Int) < 32 := by omega
      have c1 := blk_cells HRA.out n (by omega)
      obtain ⟨vo, c2⟩ : ∃ vo, wr.cell? ⟨w.heap.size + 1, n, none⟩ = some vo := ⟨_, blk_cells HRB.out n (by omega)⟩
      have f2 := HRB.out.frozen n
      go_wp2_with fail
      go_roundw
      case rel =>
        refine ⟨n + 1, by omega, by go_num, HBR.out.setCell (by simp) _, HRA.out.far (by simp) _, ?_, HRC.out.far (by simp) _⟩
        have h := HRB.out.set_ n (.int .u8 ((a n).toNat : Int))
        rw [bytesOf_set _ _ _ _ (by omega), mixK_step] at h
        exact h
      case measure => simp [intOf]; omega
    · have hge' : decide ((n : Int) < s) = false := by simp; omega
      obtain rfl : n = s := by omega
      obtain ⟨b', hb'⟩ : ∃ b', mixK a b n = b' := ⟨_, rfl⟩
      rw [hb'] at HRB
      clear hb'
      have h1 := cmpK_range a b'
      have h2 := cmpK_range b' c
      have h3 := cmpK_range a c
      have h4 := cmpK_anti a b'
      have h5 := cmpK_eq a b'
      have h6 : cmpK a b' < 0 → cmpK b' c < 0 → cmpK a c < 0 := cb_trans
      have hAB : ∀ W, Calls Try.prog 10 #[keyV a, keyV b'] W fun e w' => e = .returned (.int .i64 (cmpK a b')) ∧ Below W.heap.size W w' := fun W => kcompare_any W a b'
      have hBA : ∀ W, Calls Try.prog 10 #[keyV b', keyV a] W fun e w' => e = .returned (.int .i64 (cmpK b' a)) ∧ Below W.heap.size W w' := fun W => kcompare_any W b' a
      have hBC : ∀ W, Calls Try.prog 10 #[keyV b', keyV c] W fun e w' => e = .returned (.int .i64 (cmpK b' c)) ∧ Below W.heap.size W w' := fun W => kcompare_any W b' c
      have hAC : ∀ W, Calls Try.prog 10 #[keyV a, keyV c] W fun e w' => e = .returned (.int .i64 (cmpK a c)) ∧ Below W.heap.size W w' := fun W => kcompare_any W a c
      have hRC : ∀ W, Calls Try.prog 11 #[keyV a, keyV b'] W fun e w' => e = .returned (.int .i64 (cmpK a b')) ∧ Below W.heap.size W w' := fun W => rcompare_any W a b'
      have hls : Op.bytesLess (⟨(hexL a 32).toArray⟩ : ByteArray).toList (⟨(hexL b' 32).toArray⟩ : ByteArray).toList = decide (cmpK a b' < 0) := by rw [toList_mk, toList_mk, less_text]
      have heq := fun W => run_keyEq W a b'
      rw [h5] at heq
      rw [h4] at hBA
      obtain ⟨n1, e1⟩ : ∃ n1, cmpK a b' = n1 := ⟨_, rfl⟩
      obtain ⟨n2, e2⟩ : ∃ n2, cmpK b' c = n2 := ⟨_, rfl⟩
      obtain ⟨n3, e3⟩ : ∃ n3, cmpK a c = n3 := ⟨_, rfl⟩
      rw [e1] at h1 h6 hAB hBA hRC hls heq
      rw [e2] at h2 h6 hBC
      rw [e3] at h3 h6 hAC
      have HFA : Hid (∀ W, Calls Try.prog 12 #[keyV a] W fun e w' => e = .returned (.string ⟨(hexL a 32).toArray⟩) ∧ Below W.heap.size W w') := fun W => format_any W a
      have HFB : Hid (∀ W, Calls Try.prog 12 #[keyV b'] W fun e w' => e = .returned (.string ⟨(hexL b' 32).toArray⟩) ∧ Below W.heap.size W w') := fun W => format_any W b'
      obtain ⟨sa, hsa⟩ : ∃ sa : ByteArray, (⟨(hexL a 32).toArray⟩ : ByteArray) = sa := ⟨_, rfl⟩
      obtain ⟨sb, hsb⟩ : ∃ sb : ByteArray, (⟨(hexL b' 32).toArray⟩ : ByteArray) = sb := ⟨_, rfl⟩
      rw [hsa] at HFA hls
      rw [hsb] at HFB hls
      clear h4 h5 e1 e2 e3 hsa hsb
      have hcase : (n1 = -1 ∧ n2 = -1 ∧ n3 = -1) ∨ (n1 = -1 ∧ n2 = 0) ∨ (n1 = -1 ∧ n2 = 1) ∨ n1 = 0 ∨ n1 = 1 := by omega
      clear h1 h2 h3 h6
      have HRC4 := Lib.hid hRC
      have HLS := Lib.hid hls
      have HEQ := Lib.hid heq
      have HAB := Lib.hid hAB
      have HBA := Lib.hid hBA
      have HBC2 := Lib.hid hBC
      have HAC := Lib.hid hAC
      clear hRC hls heq hAB hBA hBC hAC
      have hzr := HBR.out.size
      rcases hcase with hc | hc | hc | hc | hc
      · skip
        obtain ⟨rfl, rfl, rfl⟩ := hc
        have hls : Op.bytesLess sa.toList sb.toList = true := HLS.out
        have heq : ∀ W, (binOp .eql 25 (keyV a) (keyV b')).run Try.prog W = .ok (.bool false) W := HEQ.out
        have hla := HRA.out.lt
        have hlb := HRB.out.lt
        have hlc := HRC.out.lt
        have HBX := Lib.hid (Below.refl wr.heap.size wr)
        have ga := HRA.out
        have gb := HRB.out
        have gc := HRC.out
        have a1 := keyOk_mk (blk_key ga)
        have a2 := loadK_eq (blk_key ga)
        have b1 := keyOk_mk (blk_key gb)
        have b2 := loadK_eq (blk_key gb)
        have c1 := keyOk_mk (blk_key gc)
        have c2 := loadK_eq (blk_key gc)
        clear ga gb gc
        go_wp2_with fail
        (with_reducible refine (HAB.out _).mono ?_)
        rintro e w1 ⟨rfl, hb⟩
        have hbel : Below wr.heap.size wr w1 := below_step (a := wr) HBX.out hb
        have HBX := Lib.hid hbel
        clear hb hbel a1 a2 b1 b2 c1 c2
        have ga := HRA.out.below HBX.out hla
        have gb := HRB.out.below HBX.out hlb
        have gc := HRC.out.below HBX.out hlc
        have a1 := keyOk_mk (blk_key ga)
        have a2 := loadK_eq (blk_key ga)
        have b1 := keyOk_mk (blk_key gb)
        have b2 := loadK_eq (blk_key gb)
        have c1 := keyOk_mk (blk_key gc)
        have c2 := loadK_eq (blk_key gc)
        clear ga gb gc
        go_wp2_with fail
        (with_reducible refine (HRC4.out _).mono ?_)
        rintro e w2 ⟨rfl, hb⟩
        have hbel : Below wr.heap.size wr w2 := below_step (a := wr) HBX.out hb
        have HBX := Lib.hid hbel
        clear hb hbel a1 a2 b1 b2 c1 c2
        have ga := HRA.out.below HBX.out hla
        have gb := HRB.out.below HBX.out hlb
        have gc := HRC.out.below HBX.out hlc
        have a1 := keyOk_mk (blk_key ga)
        have a2 := loadK_eq (blk_key ga)
        have b1 := keyOk_mk (blk_key gb)
        have b2 := loadK_eq (blk_key gb)
        have c1 := keyOk_mk (blk_key gc)
        have c2 := loadK_eq (blk_key gc)
        clear ga gb gc
        go_wp2_with fail
        (with_reducible refine (HBA.out _).mono ?_)
        rintro e w3 ⟨rfl, hb⟩
        have hbel : Below wr.heap.size wr w3 := below_step (a := wr) HBX.out hb
        have HBX := Lib.hid hbel
        clear hb hbel a1 a2 b1 b2 c1 c2
        have ga := HRA.out.below HBX.out hla
        have gb := HRB.out.below HBX.out hlb
        have gc := HRC.out.below HBX.out hlc
        have a1 := keyOk_mk (blk_key ga)
        have a2 := loadK_eq (blk_key ga)
        have b1 := keyOk_mk (blk_key gb)
        have b2 := loadK_eq (blk_key gb)
        have c1 := keyOk_mk (blk_key gc)
        have c2 := loadK_eq (blk_key gc)
        clear ga gb gc
        go_wp2_with fail
        (with_reducible refine (HBC2.out _).mono ?_)
        rintro e w4 ⟨rfl, hb⟩
        have hbel : Below wr.heap.size wr w4 := below_step (a := wr) HBX.out hb
        have HBX := Lib.hid hbel
        clear hb hbel a1 a2 b1 b2 c1 c2
        have ga := HRA.out.below HBX.out hla
        have gb := HRB.out.below HBX.out hlb
        have gc := HRC.out.below HBX.out hlc
        have a1 := keyOk_mk (blk_key ga)
        have a2 := loadK_eq (blk_key ga)
        have b1 := keyOk_mk (blk_key gb)
        have b2 := loadK_eq (blk_key gb)
        have c1 := keyOk_mk (blk_key gc)
        have c2 := loadK_eq (blk_key gc)
        clear ga gb gc
        go_wp2_with fail
        (with_reducible refine (HAC.out _).mono ?_)
        rintro e w5 ⟨rfl, hb⟩
        have hbel : Below wr.heap.size wr w5 := below_step (a := wr) HBX.out hb
        have HBX := Lib.hid hbel
        clear hb hbel a1 a2 b1 b2 c1 c2
        have ga := HRA.out.below HBX.out hla
        have gb := HRB.out.below HBX.out hlb
        have gc := HRC.out.below HBX.out hlc
        have a1 := keyOk_mk (blk_key ga)
        have a2 := loadK_eq (blk_key ga)
        have b1 := keyOk_mk (blk_key gb)
        have b2 := loadK_eq (blk_key gb)
        have c1 := keyOk_mk (blk_key gc)
        have c2 := loadK_eq (blk_key gc)
        clear ga gb gc
        clear a1 a2 b1 b2 c1 c2
        go_upto_region 8 with (fail)
        have rra : wr.rangeAt w.heap.size 0 (bytesOf 32 a) := blk_range HRA.out
        have rrb : wr.rangeAt (w.heap.size + 1) 0 (bytesOf 32 b') := blk_range HRB.out
        have ra := range_below HBX.out hla rra
        have rb := range_below HBX.out hlb rrb
        have hu := Try.underlying25
        have hia := key_size a
        have hib := key_size b'
        have HBC := Lib.hid HBX.out
        refine wp_region_noPanic ?_
        refine wp_region_held_drew (S := fun w' => w'.rangeAt w.heap.size 0 (bytesOf 32 a) ∧ w'.rangeAt (w.heap.size + 1) 0 (bytesOf 32 b')) (by kernel_rfl) ⟨ra, rb⟩ (fun hHeld => ?_)
        refine wpAnyH_take (i := 0) (oi := ⟨some 67, _, _, _, _, _⟩) (v := ?_) rfl (by kernel_rfl) (by kernel_rfl) (by kernel_rfl) (fun _ _ _ h => h) (Or.inl ⟨by kernel_rfl, ?_⟩) hHeld ?_
        rotate_left
        · intro w hSw
          (try dsimp only at hSw)
          go_simp
          all_goals (with_reducible rfl)
        conv => arg 8; simp only [Act.put, List.setIfInBounds_toArray, List.set_cons_zero, List.set_cons_succ]
        refine wpAnyH_take (i := 1) (oi := ⟨some 68, _, _, _, _, _⟩) (v := ?_) rfl (by kernel_rfl) (by kernel_rfl) (by kernel_rfl) (fun _ _ _ h => h) (Or.inl ⟨by kernel_rfl, ?_⟩) hHeld ?_
        rotate_left
        · intro w hSw
          (try dsimp only at hSw)
          go_simp
          all_goals (with_reducible rfl)
        conv => arg 8; simp only [Act.put, List.setIfInBounds_toArray, List.set_cons_zero, List.set_cons_succ]
        refine wpAnyH_take (i := 2) (oi := ⟨some 69, _, _, _, _, _⟩) (v := _) rfl (by kernel_rfl) (by kernel_rfl) (by kernel_rfl) (fun _ _ _ h => h) (yieldsIf_load_mid (S := fun w' => w'.rangeAt w.heap.size 0 (bytesOf 32 a) ∧ w'.rangeAt (w.heap.size + 1) 0 (bytesOf 32 b')) (by kernel_rfl) _ _ rfl _ _ rfl _ _ (fun w hSw => hSw.1) hu rfl hia) hHeld ?_
        conv => arg 8; simp only [Act.put, List.setIfInBounds_toArray, List.set_cons_zero, List.set_cons_succ]
        refine wpAnyH_take (i := 4) (oi := ⟨some 71, _, _, _, _, _⟩) (v := _) rfl (by kernel_rfl) (by kernel_rfl) (by kernel_rfl) (fun _ _ _ h => h) (yieldsIf_load_mid (S := fun w' => w'.rangeAt w.heap.size 0 (bytesOf 32 a) ∧ w'.rangeAt (w.heap.size + 1) 0 (bytesOf 32 b')) (by kernel_rfl) _ _ rfl _ _ rfl _ _ (fun w hSw => hSw.2) hu rfl hib) hHeld ?_
        conv => arg 8; simp only [Act.put, List.setIfInBounds_toArray, List.set_cons_zero, List.set_cons_succ]
        refine wpAnyH_ready (rs := [3]) (by kernel_rfl) (by simp) ?_
        refine AllReadyH.cons (o := ⟨some 70, _, _, _, _, _⟩) rfl (fun K hK => ?_) AllReadyH.nil
        go_simp
        go_at_call 12
        (with_reducible refine (HFA.out _).mono ?_)
        rintro e w9 ⟨rfl, hb9⟩
        have hBEL : Below wr.heap.size wr w9 := below_step (a := wr) (by repeat (first | (with_reducible exact HBC.out) | (with_reducible refine belowDrewR ?_) | (with_reducible refine below_dnR ?_ _) | (with_reducible refine below_al ?_ _))) hb9
        have HBC := Lib.hid hBEL
        clear hb9 hBEL
        refine hK.out _ _ ⟨range_below (a := wr) HBC.out hla rra, range_below (a := wr) HBC.out hlb rrb⟩ (fun hHeld => ?_)
        clear hK K
        conv => arg 8; simp only [Act.put, List.setIfInBounds_toArray, List.set_cons_zero, List.set_cons_succ]
        refine wpAnyH_ready (rs := [5]) (by kernel_rfl) (by simp) ?_
        refine AllReadyH.cons (o := ⟨some 72, _, _, _, _, _⟩) rfl (fun K hK => ?_) AllReadyH.nil
        go_simp
        go_at_call 12
        (with_reducible refine (HFB.out _).mono ?_)
        rintro e w9 ⟨rfl, hb9⟩
        have hBEL : Below wr.heap.size wr w9 := below_step (a := wr) (by repeat (first | (with_reducible exact HBC.out) | (with_reducible refine belowDrewR ?_) | (with_reducible refine below_dnR ?_ _) | (with_reducible refine below_al ?_ _))) hb9
        have HBC := Lib.hid hBEL
        clear hb9 hBEL
        refine hK.out _ _ ⟨range_below (a := wr) HBC.out hla rra, range_below (a := wr) HBC.out hlb rrb⟩ (fun hHeld => ?_)
        clear hK K
        conv => arg 8; simp only [Act.put, List.setIfInBounds_toArray, List.set_cons_zero, List.set_cons_succ]
        refine wpAnyH_take (i := 6) (oi := ⟨some 73, _, _, _, _, _⟩) (v := ?_) rfl (by kernel_rfl) (by kernel_rfl) (by kernel_rfl) (fun _ _ _ h => h) (Or.inl ⟨by kernel_rfl, ?_⟩) hHeld ?_
        rotate_left
        · intro w hSw
          (try dsimp only at hSw)
          go_simp
          all_goals (with_reducible rfl)
        conv => arg 8; simp only [Act.put, List.setIfInBounds_toArray, List.set_cons_zero, List.set_cons_succ]
        refine wpAnyH_take (i := 7) (oi := ⟨some 74, _, _, _, _, _⟩) (v := ?_) rfl (by kernel_rfl) (by kernel_rfl) (by kernel_rfl) (fun _ _ _ h => h) (Or.inl ⟨by kernel_rfl, ?_⟩) hHeld ?_
        rotate_left
        · intro w hSw
          (try dsimp only at hSw)
          go_simp
          all_goals (with_reducible rfl)
        conv => arg 8; simp only [Act.put, List.setIfInBounds_toArray, List.set_cons_zero, List.set_cons_succ]
        refine wpAnyH_take (i := 8) (oi := ⟨some 75, _, _, _, _, _⟩) (v := ?_) rfl (by kernel_rfl) (by kernel_rfl) (by kernel_rfl) (fun _ _ _ h => h) (Or.inl ⟨by kernel_rfl, ?_⟩) hHeld ?_
        rotate_left
        · intro w hSw
          (try dsimp only at hSw)
          go_simp
          all_goals (with_reducible rfl)
        conv => arg 8; simp only [Act.put, List.setIfInBounds_toArray, List.set_cons_zero, List.set_cons_succ]
        refine wpAnyH_ready (rs := [9]) (by kernel_rfl) (by simp) ?_
        refine AllReadyH.cons (o := ⟨some 76, _, _, _, _, _⟩) rfl (fun K hK => ?_) AllReadyH.nil
        refine ite_yes (by kernel_rfl) ?_
        go_simp
        go_at_call 7
        (with_reducible refine (known_any _).mono ?_)
        rintro e w9 ⟨rfl, hb9⟩
        have hBEL : Below wr.heap.size wr w9 := below_step (a := wr) (by repeat (first | (with_reducible exact HBC.out) | (with_reducible refine belowDrewR ?_) | (with_reducible refine below_dnR ?_ _) | (with_reducible refine below_al ?_ _))) hb9
        have HBC := Lib.hid hBEL
        clear hb9 hBEL
        refine hK.out _ _ ⟨range_below (a := wr) HBC.out hla rra, range_below (a := wr) HBC.out hlb rrb⟩ (fun hHeld => ?_)
        clear hK K
        conv => arg 8; simp only [Act.put, List.setIfInBounds_toArray, List.set_cons_zero, List.set_cons_succ]
        refine wpAnyH_take (i := 10) (oi := ⟨some 77, _, _, _, _, _⟩) (v := ?_) rfl (by kernel_rfl) (by kernel_rfl) (by kernel_rfl) (fun _ _ _ h => h) (Or.inl ⟨by kernel_rfl, ?_⟩) hHeld ?_
        rotate_left
        · intro w hSw
          (try dsimp only at hSw)
          go_simp
          all_goals (with_reducible rfl)
        conv => arg 8; simp only [Act.put, List.setIfInBounds_toArray, List.set_cons_zero, List.set_cons_succ]
        refine wpAnyH_take (i := 11) (oi := ⟨some 8, _, _, _, _, _⟩) (v := ?_) rfl (by kernel_rfl) (by kernel_rfl) (by kernel_rfl) (fun _ _ _ h => h) (Or.inl ⟨by kernel_rfl, ?_⟩) hHeld ?_
        rotate_left
        · intro w hSw
          (try dsimp only at hSw)
          go_simp
          all_goals (with_reducible rfl)
        conv => arg 8; simp only [Act.put, List.setIfInBounds_toArray, List.set_cons_zero, List.set_cons_succ]
        refine wpAnyH_done (by kernel_rfl) ?_ _
        refine NoPanic.normal ?_
        go_wp2_with fail
        go_ret
        exact ⟨rfl, HBR.out.trans (HBC.out.mono hzr)⟩
      · skip
        obtain ⟨rfl, rfl⟩ := hc
        have hls : Op.bytesLess sa.toList sb.toList = true := HLS.out
        have heq : ∀ W, (binOp .eql 25 (keyV a) (keyV b')).run Try.prog W = .ok (.bool false) W := HEQ.out
        have hla := HRA.out.lt
        have hlb := HRB.out.lt
        have hlc := HRC.out.lt
        have HBX := Lib.hid (Below.refl wr.heap.size wr)
        have ga := HRA.out
        have gb := HRB.out
        have gc := HRC.out
        have a1 := keyOk_mk (blk_key ga)
        have a2 := loadK_eq (blk_key ga)
        have b1 := keyOk_mk (blk_key gb)
        have b2 := loadK_eq (blk_key gb)
        have c1 := keyOk_mk (blk_key gc)
        have c2 := loadK_eq (blk_key gc)
        clear ga gb gc
        go_wp2_with fail
        (with_reducible refine (HAB.out _).mono ?_)
        rintro e w1 ⟨rfl, hb⟩
        have hbel : Below wr.heap.size wr w1 := below_step (a := wr) HBX.out hb
        have HBX := Lib.hid hbel
        clear hb hbel a1 a2 b1 b2 c1 c2
        have ga := HRA.out.below HBX.out hla
        have gb := HRB.out.below HBX.out hlb
        have gc := HRC.out.below HBX.out hlc
        have a1 := keyOk_mk (blk_key ga)
        have a2 := loadK_eq (blk_key ga)
        have b1 := keyOk_mk (blk_key gb)
        have b2 := loadK_eq (blk_key gb)
        have c1 := keyOk_mk (blk_key gc)
        have c2 := loadK_eq (blk_key gc)
        clear ga gb gc
        go_wp2_with fail
        (with_reducible refine (HRC4.out _).mono ?_)
        rintro e w2 ⟨rfl, hb⟩
        have hbel : Below wr.heap.size wr w2 := below_step (a := wr) HBX.out hb
        have HBX := Lib.hid hbel
        clear hb hbel a1 a2 b1 b2 c1 c2
        have ga := HRA.out.below HBX.out hla
        have gb := HRB.out.below HBX.out hlb
        have gc := HRC.out.below HBX.out hlc
        have a1 := keyOk_mk (blk_key ga)
        have a2 := loadK_eq (blk_key ga)
        have b1 := keyOk_mk (blk_key gb)
        have b2 := loadK_eq (blk_key gb)
        have c1 := keyOk_mk (blk_key gc)
        have c2 := loadK_eq (blk_key gc)
        clear ga gb gc
        go_wp2_with fail
        (with_reducible refine (HBA.out _).mono ?_)
        rintro e w3 ⟨rfl, hb⟩
        have hbel : Below wr.heap.size wr w3 := below_step (a := wr) HBX.out hb
        have HBX := Lib.hid hbel
        clear hb hbel a1 a2 b1 b2 c1 c2
        have ga := HRA.out.below HBX.out hla
        have gb := HRB.out.below HBX.out hlb
        have gc := HRC.out.below HBX.out hlc
        have a1 := keyOk_mk (blk_key ga)
        have a2 := loadK_eq (blk_key ga)
        have b1 := keyOk_mk (blk_key gb)
        have b2 := loadK_eq (blk_key gb)
        have c1 := keyOk_mk (blk_key gc)
        have c2 := loadK_eq (blk_key gc)
        clear ga gb gc
        go_wp2_with fail
        (with_reducible refine (HBC2.out _).mono ?_)
        rintro e w4 ⟨rfl, hb⟩
        have hbel : Below wr.heap.size wr w4 := below_step (a := wr) HBX.out hb
        have HBX := Lib.hid hbel
        clear hb hbel a1 a2 b1 b2 c1 c2
        have ga := HRA.out.below HBX.out hla
        have gb := HRB.out.below HBX.out hlb
        have gc := HRC.out.below HBX.out hlc
        have a1 := keyOk_mk (blk_key ga)
        have a2 := loadK_eq (blk_key ga)
        have b1 := keyOk_mk (blk_key gb)
        have b2 := loadK_eq (blk_key gb)
        have c1 := keyOk_mk (blk_key gc)
        have c2 := loadK_eq (blk_key gc)
        clear ga gb gc
        clear a1 a2 b1 b2 c1 c2
        go_upto_region 8 with (fail)
        have rra : wr.rangeAt w.heap.size 0 (bytesOf 32 a) := blk_range HRA.out
        have rrb : wr.rangeAt (w.heap.size + 1) 0 (bytesOf 32 b') := blk_range HRB.out
        have ra := range_below HBX.out hla rra
        have rb := range_below HBX.out hlb rrb
        have hu := Try.underlying25
        have hia := key_size a
        have hib := key_size b'
        have HBC := Lib.hid HBX.out
        refine wp_region_noPanic ?_
        refine wp_region_held_drew (S := fun w' => w'.rangeAt w.heap.size 0 (bytesOf 32 a) ∧ w'.rangeAt (w.heap.size + 1) 0 (bytesOf 32 b')) (by kernel_rfl) ⟨ra, rb⟩ (fun hHeld => ?_)
        refine wpAnyH_take (i := 0) (oi := ⟨some 67, _, _, _, _, _⟩) (v := ?_) rfl (by kernel_rfl) (by kernel_rfl) (by kernel_rfl) (fun _ _ _ h => h) (Or.inl ⟨by kernel_rfl, ?_⟩) hHeld ?_
        rotate_left
        · intro w hSw
          (try dsimp only at hSw)
          go_simp
          all_goals (with_reducible rfl)
        conv => arg 8; simp only [Act.put, List.setIfInBounds_toArray, List.set_cons_zero, List.set_cons_succ]
        refine wpAnyH_take (i := 1) (oi := ⟨some 68, _, _, _, _, _⟩) (v := ?_) rfl (by kernel_rfl) (by kernel_rfl) (by kernel_rfl) (fun _ _ _ h => h) (Or.inl ⟨by kernel_rfl, ?_⟩) hHeld ?_
        rotate_left
        · intro w hSw
          (try dsimp only at hSw)
          go_simp
          all_goals (with_reducible rfl)
        conv => arg 8; simp only [Act.put, List.setIfInBounds_toArray, List.set_cons_zero, List.set_cons_succ]
        refine wpAnyH_take (i := 2) (oi := ⟨some 69, _, _, _, _, _⟩) (v := _) rfl (by kernel_rfl) (by kernel_rfl) (by kernel_rfl) (fun _ _ _ h => h) (yieldsIf_load_mid (S := fun w' => w'.rangeAt w.heap.size 0 (bytesOf 32 a) ∧ w'.rangeAt (w.heap.size + 1) 0 (bytesOf 32 b')) (by kernel_rfl) _ _ rfl _ _ rfl _ _ (fun w hSw => hSw.1) hu rfl hia) hHeld ?_
        conv => arg 8; simp only [Act.put, List.setIfInBounds_toArray, List.set_cons_zero, List.set_cons_succ]
        refine wpAnyH_take (i := 4) (oi := ⟨some 71, _, _, _, _, _⟩) (v := _) rfl (by kernel_rfl) (by kernel_rfl) (by kernel_rfl) (fun _ _ _ h => h) (yieldsIf_load_mid (S := fun w' => w'.rangeAt w.heap.size 0 (bytesOf 32 a) ∧ w'.rangeAt (w.heap.size + 1) 0 (bytesOf 32 b')) (by kernel_rfl) _ _ rfl _ _ rfl _ _ (fun w hSw => hSw.2) hu rfl hib) hHeld ?_
        conv => arg 8; simp only [Act.put, List.setIfInBounds_toArray, List.set_cons_zero, List.set_cons_succ]
        refine wpAnyH_ready (rs := [3]) (by kernel_rfl) (by simp) ?_
        refine AllReadyH.cons (o := ⟨some 70, _, _, _, _, _⟩) rfl (fun K hK => ?_) AllReadyH.nil
        go_simp
        go_at_call 12
        (with_reducible refine (HFA.out _).mono ?_)
        rintro e w9 ⟨rfl, hb9⟩
        have hBEL : Below wr.heap.size wr w9 := below_step (a := wr) (by repeat (first | (with_reducible exact HBC.out) | (with_reducible refine belowDrewR ?_) | (with_reducible refine below_dnR ?_ _) | (with_reducible refine below_al ?_ _))) hb9
        have HBC := Lib.hid hBEL
        clear hb9 hBEL
        refine hK.out _ _ ⟨range_below (a := wr) HBC.out hla rra, range_below (a := wr) HBC.out hlb rrb⟩ (fun hHeld => ?_)
        clear hK K
        conv => arg 8; simp only [Act.put, List.setIfInBounds_toArray, List.set_cons_zero, List.set_cons_succ]
        refine wpAnyH_ready (rs := [5]) (by kernel_rfl) (by simp) ?_
        refine AllReadyH.cons (o := ⟨some 72, _, _, _, _, _⟩) rfl (fun K hK => ?_) AllReadyH.nil
        go_simp
        go_at_call 12
        (with_reducible refine (HFB.out _).mono ?_)
        rintro e w9 ⟨rfl, hb9⟩
        have hBEL : Below wr.heap.size wr w9 := below_step (a := wr) (by repeat (first | (with_reducible exact HBC.out) | (with_reducible refine belowDrewR ?_) | (with_reducible refine below_dnR ?_ _) | (with_reducible refine below_al ?_ _))) hb9
        have HBC := Lib.hid hBEL
        clear hb9 hBEL
        refine hK.out _ _ ⟨range_below (a := wr) HBC.out hla rra, range_below (a := wr) HBC.out hlb rrb⟩ (fun hHeld => ?_)
        clear hK K
        conv => arg 8; simp only [Act.put, List.setIfInBounds_toArray, List.set_cons_zero, List.set_cons_succ]
        refine wpAnyH_take (i := 6) (oi := ⟨some 73, _, _, _, _, _⟩) (v := ?_) rfl (by kernel_rfl) (by kernel_rfl) (by kernel_rfl) (fun _ _ _ h => h) (Or.inl ⟨by kernel_rfl, ?_⟩) hHeld ?_
        rotate_left
        · intro w hSw
          (try dsimp only at hSw)
          go_simp
          all_goals (with_reducible rfl)
        conv => arg 8; simp only [Act.put, List.setIfInBounds_toArray, List.set_cons_zero, List.set_cons_succ]
        refine wpAnyH_take (i := 7) (oi := ⟨some 74, _, _, _, _, _⟩) (v := ?_) rfl (by kernel_rfl) (by kernel_rfl) (by kernel_rfl) (fun _ _ _ h => h) (Or.inl ⟨by kernel_rfl, ?_⟩) hHeld ?_
        rotate_left
        · intro w hSw
          (try dsimp only at hSw)
          go_simp
          all_goals (with_reducible rfl)
        conv => arg 8; simp only [Act.put, List.setIfInBounds_toArray, List.set_cons_zero, List.set_cons_succ]
        refine wpAnyH_take (i := 8) (oi := ⟨some 75, _, _, _, _, _⟩) (v := ?_) rfl (by kernel_rfl) (by kernel_rfl) (by kernel_rfl) (fun _ _ _ h => h) (Or.inl ⟨by kernel_rfl, ?_⟩) hHeld ?_
        rotate_left
        · intro w hSw
          (try dsimp only at hSw)
          go_simp
          all_goals (with_reducible rfl)
        conv => arg 8; simp only [Act.put, List.setIfInBounds_toArray, List.set_cons_zero, List.set_cons_succ]
        refine wpAnyH_ready (rs := [9]) (by kernel_rfl) (by simp) ?_
        refine AllReadyH.cons (o := ⟨some 76, _, _, _, _, _⟩) rfl (fun K hK => ?_) AllReadyH.nil
        refine ite_yes (by kernel_rfl) ?_
        go_simp
        go_at_call 7
        (with_reducible refine (known_any _).mono ?_)
        rintro e w9 ⟨rfl, hb9⟩
        have hBEL : Below wr.heap.size wr w9 := below_step (a := wr) (by repeat (first | (with_reducible exact HBC.out) | (with_reducible refine belowDrewR ?_) | (with_reducible refine below_dnR ?_ _) | (with_reducible refine below_al ?_ _))) hb9
        have HBC := Lib.hid hBEL
        clear hb9 hBEL
        refine hK.out _ _ ⟨range_below (a := wr) HBC.out hla rra, range_below (a := wr) HBC.out hlb rrb⟩ (fun hHeld => ?_)
        clear hK K
        conv => arg 8; simp only [Act.put, List.setIfInBounds_toArray, List.set_cons_zero, List.set_cons_succ]
        refine wpAnyH_take (i := 10) (oi := ⟨some 77, _, _, _, _, _⟩) (v := ?_) rfl (by kernel_rfl) (by kernel_rfl) (by kernel_rfl) (fun _ _ _ h => h) (Or.inl ⟨by kernel_rfl, ?_⟩) hHeld ?_
        rotate_left
        · intro w hSw
          (try dsimp only at hSw)
          go_simp
          all_goals (with_reducible rfl)
        conv => arg 8; simp only [Act.put, List.setIfInBounds_toArray, List.set_cons_zero, List.set_cons_succ]
        refine wpAnyH_take (i := 11) (oi := ⟨some 8, _, _, _, _, _⟩) (v := ?_) rfl (by kernel_rfl) (by kernel_rfl) (by kernel_rfl) (fun _ _ _ h => h) (Or.inl ⟨by kernel_rfl, ?_⟩) hHeld ?_
        rotate_left
        · intro w hSw
          (try dsimp only at hSw)
          go_simp
          all_goals (with_reducible rfl)
        conv => arg 8; simp only [Act.put, List.setIfInBounds_toArray, List.set_cons_zero, List.set_cons_succ]
        refine wpAnyH_done (by kernel_rfl) ?_ _
        refine NoPanic.normal ?_
        go_wp2_with fail
        go_ret
        exact ⟨rfl, HBR.out.trans (HBC.out.mono hzr)⟩
      · skip
        obtain ⟨rfl, rfl⟩ := hc
        have hls : Op.bytesLess sa.toList sb.toList = true := HLS.out
        have heq : ∀ W, (binOp .eql 25 (keyV a) (keyV b')).run Try.prog W = .ok (.bool false) W := HEQ.out
        have hla := HRA.out.lt
        have hlb := HRB.out.lt
        have hlc := HRC.out.lt
        have HBX := Lib.hid (Below.refl wr.heap.size wr)
        have ga := HRA.out
        have gb := HRB.out
        have gc := HRC.out
        have a1 := keyOk_mk (blk_key ga)
        have a2 := loadK_eq (blk_key ga)
        have b1 := keyOk_mk (blk_key gb)
        have b2 := loadK_eq (blk_key gb)
        have c1 := keyOk_mk (blk_key gc)
        have c2 := loadK_eq (blk_key gc)
        clear ga gb gc
        go_wp2_with fail
        (with_reducible refine (HAB.out _).mono ?_)
        rintro e w1 ⟨rfl, hb⟩
        have hbel : Below wr.heap.size wr w1 := below_step (a := wr) HBX.out hb
        have HBX := Lib.hid hbel
        clear hb hbel a1 a2 b1 b2 c1 c2
        have ga := HRA.out.below HBX.out hla
        have gb := HRB.out.below HBX.out hlb
        have gc := HRC.out.below HBX.out hlc
        have a1 := keyOk_mk (blk_key ga)
        have a2 := loadK_eq (blk_key ga)
        have b1 := keyOk_mk (blk_key gb)
        have b2 := loadK_eq (blk_key gb)
        have c1 := keyOk_mk (blk_key gc)
        have c2 := loadK_eq (blk_key gc)
        clear ga gb gc
        go_wp2_with fail
        (with_reducible refine (HRC4.out _).mono ?_)
        rintro e w2 ⟨rfl, hb⟩
        have hbel : Below wr.heap.size wr w2 := below_step (a := wr) HBX.out hb
        have HBX := Lib.hid hbel
        clear hb hbel a1 a2 b1 b2 c1 c2
        have ga := HRA.out.below HBX.out hla
        have gb := HRB.out.below HBX.out hlb
        have gc := HRC.out.below HBX.out hlc
        have a1 := keyOk_mk (blk_key ga)
        have a2 := loadK_eq (blk_key ga)
        have b1 := keyOk_mk (blk_key gb)
        have b2 := loadK_eq (blk_key gb)
        have c1 := keyOk_mk (blk_key gc)
        have c2 := loadK_eq (blk_key gc)
        clear ga gb gc
        go_wp2_with fail
        (with_reducible refine (HBA.out _).mono ?_)
        rintro e w3 ⟨rfl, hb⟩
        have hbel : Below wr.heap.size wr w3 := below_step (a := wr) HBX.out hb
        have HBX := Lib.hid hbel
        clear hb hbel a1 a2 b1 b2 c1 c2
        have ga := HRA.out.below HBX.out hla
        have gb := HRB.out.below HBX.out hlb
        have gc := HRC.out.below HBX.out hlc
        have a1 := keyOk_mk (blk_key ga)
        have a2 := loadK_eq (blk_key ga)
        have b1 := keyOk_mk (blk_key gb)
        have b2 := loadK_eq (blk_key gb)
        have c1 := keyOk_mk (blk_key gc)
        have c2 := loadK_eq (blk_key gc)
        clear ga gb gc
        go_wp2_with fail
        (with_reducible refine (HBC2.out _).mono ?_)
        rintro e w4 ⟨rfl, hb⟩
        have hbel : Below wr.heap.size wr w4 := below_step (a := wr) HBX.out hb
        have HBX := Lib.hid hbel
        clear hb hbel a1 a2 b1 b2 c1 c2
        have ga := HRA.out.below HBX.out hla
        have gb := HRB.out.below HBX.out hlb
        have gc := HRC.out.below HBX.out hlc
        have a1 := keyOk_mk (blk_key ga)
        have a2 := loadK_eq (blk_key ga)
        have b1 := keyOk_mk (blk_key gb)
        have b2 := loadK_eq (blk_key gb)
        have c1 := keyOk_mk (blk_key gc)
        have c2 := loadK_eq (blk_key gc)
        clear ga gb gc
        clear a1 a2 b1 b2 c1 c2
        go_upto_region 8 with (fail)
        have rra : wr.rangeAt w.heap.size 0 (bytesOf 32 a) := blk_range HRA.out
        have rrb : wr.rangeAt (w.heap.size + 1) 0 (bytesOf 32 b') := blk_range HRB.out
        have ra := range_below HBX.out hla rra
        have rb := range_below HBX.out hlb rrb
        have hu := Try.underlying25
        have hia := key_size a
        have hib := key_size b'
        have HBC := Lib.hid HBX.out
        refine wp_region_noPanic ?_
        refine wp_region_held_drew (S := fun w' => w'.rangeAt w.heap.size 0 (bytesOf 32 a) ∧ w'.rangeAt (w.heap.size + 1) 0 (bytesOf 32 b')) (by kernel_rfl) ⟨ra, rb⟩ (fun hHeld => ?_)
        refine wpAnyH_take (i := 0) (oi := ⟨some 67, _, _, _, _, _⟩) (v := ?_) rfl (by kernel_rfl) (by kernel_rfl) (by kernel_rfl) (fun _ _ _ h => h) (Or.inl ⟨by kernel_rfl, ?_⟩) hHeld ?_
        rotate_left
        · intro w hSw
          (try dsimp only at hSw)
          go_simp
          all_goals (with_reducible rfl)
        conv => arg 8; simp only [Act.put, List.setIfInBounds_toArray, List.set_cons_zero, List.set_cons_succ]
        refine wpAnyH_take (i := 1) (oi := ⟨some 68, _, _, _, _, _⟩) (v := ?_) rfl (by kernel_rfl) (by kernel_rfl) (by kernel_rfl) (fun _ _ _ h => h) (Or.inl ⟨by kernel_rfl, ?_⟩) hHeld ?_
        rotate_left
        · intro w hSw
          (try dsimp only at hSw)
          go_simp
          all_goals (with_reducible rfl)
        conv => arg 8; simp only [Act.put, List.setIfInBounds_toArray, List.set_cons_zero, List.set_cons_succ]
        refine wpAnyH_take (i := 2) (oi := ⟨some 69, _, _, _, _, _⟩) (v := _) rfl (by kernel_rfl) (by kernel_rfl) (by kernel_rfl) (fun _ _ _ h => h) (yieldsIf_load_mid (S := fun w' => w'.rangeAt w.heap.size 0 (bytesOf 32 a) ∧ w'.rangeAt (w.heap.size + 1) 0 (bytesOf 32 b')) (by kernel_rfl) _ _ rfl _ _ rfl _ _ (fun w hSw => hSw.1) hu rfl hia) hHeld ?_
        conv => arg 8; simp only [Act.put, List.setIfInBounds_toArray, List.set_cons_zero, List.set_cons_succ]
        refine wpAnyH_take (i := 4) (oi := ⟨some 71, _, _, _, _, _⟩) (v := _) rfl (by kernel_rfl) (by kernel_rfl) (by kernel_rfl) (fun _ _ _ h => h) (yieldsIf_load_mid (S := fun w' => w'.rangeAt w.heap.size 0 (bytesOf 32 a) ∧ w'.rangeAt (w.heap.size + 1) 0 (bytesOf 32 b')) (by kernel_rfl) _ _ rfl _ _ rfl _ _ (fun w hSw => hSw.2) hu rfl hib) hHeld ?_
        conv => arg 8; simp only [Act.put, List.setIfInBounds_toArray, List.set_cons_zero, List.set_cons_succ]
        refine wpAnyH_ready (rs := [3]) (by kernel_rfl) (by simp) ?_
        refine AllReadyH.cons (o := ⟨some 70, _, _, _, _, _⟩) rfl (fun K hK => ?_) AllReadyH.nil
        go_simp
        go_at_call 12
        (with_reducible refine (HFA.out _).mono ?_)
        rintro e w9 ⟨rfl, hb9⟩
        have hBEL : Below wr.heap.size wr w9 := below_step (a := wr) (by repeat (first | (with_reducible exact HBC.out) | (with_reducible refine belowDrewR ?_) | (with_reducible refine below_dnR ?_ _) | (with_reducible refine below_al ?_ _))) hb9
        have HBC := Lib.hid hBEL
        clear hb9 hBEL
        refine hK.out _ _ ⟨range_below (a := wr) HBC.out hla rra, range_below (a := wr) HBC.out hlb rrb⟩ (fun hHeld => ?_)
        clear hK K
        conv => arg 8; simp only [Act.put, List.setIfInBounds_toArray, List.set_cons_zero, List.set_cons_succ]
        refine wpAnyH_ready (rs := [5]) (by kernel_rfl) (by simp) ?_
        refine AllReadyH.cons (o := ⟨some 72, _, _, _, _, _⟩) rfl (fun K hK => ?_) AllReadyH.nil
        go_simp
        go_at_call 12
        (with_reducible refine (HFB.out _).mono ?_)
        rintro e w9 ⟨rfl, hb9⟩
        have hBEL : Below wr.heap.size wr w9 := below_step (a := wr) (by repeat (first | (with_reducible exact HBC.out) | (with_reducible refine belowDrewR ?_) | (with_reducible refine below_dnR ?_ _) | (with_reducible refine below_al ?_ _))) hb9
        have HBC := Lib.hid hBEL
        clear hb9 hBEL
        refine hK.out _ _ ⟨range_below (a := wr) HBC.out hla rra, range_below (a := wr) HBC.out hlb rrb⟩ (fun hHeld => ?_)
        clear hK K
        conv => arg 8; simp only [Act.put, List.setIfInBounds_toArray, List.set_cons_zero, List.set_cons_succ]
        refine wpAnyH_take (i := 6) (oi := ⟨some 73, _, _, _, _, _⟩) (v := ?_) rfl (by kernel_rfl) (by kernel_rfl) (by kernel_rfl) (fun _ _ _ h => h) (Or.inl ⟨by kernel_rfl, ?_⟩) hHeld ?_
        rotate_left
        · intro w hSw
          (try dsimp only at hSw)
          go_simp
          all_goals (with_reducible rfl)
        conv => arg 8; simp only [Act.put, List.setIfInBounds_toArray, List.set_cons_zero, List.set_cons_succ]
        refine wpAnyH_take (i := 7) (oi := ⟨some 74, _, _, _, _, _⟩) (v := ?_) rfl (by kernel_rfl) (by kernel_rfl) (by kernel_rfl) (fun _ _ _ h => h) (Or.inl ⟨by kernel_rfl, ?_⟩) hHeld ?_
        rotate_left
        · intro w hSw
          (try dsimp only at hSw)
          go_simp
          all_goals (with_reducible rfl)
        conv => arg 8; simp only [Act.put, List.setIfInBounds_toArray, List.set_cons_zero, List.set_cons_succ]
        refine wpAnyH_take (i := 8) (oi := ⟨some 75, _, _, _, _, _⟩) (v := ?_) rfl (by kernel_rfl) (by kernel_rfl) (by kernel_rfl) (fun _ _ _ h => h) (Or.inl ⟨by kernel_rfl, ?_⟩) hHeld ?_
        rotate_left
        · intro w hSw
          (try dsimp only at hSw)
          go_simp
          all_goals (with_reducible rfl)
        conv => arg 8; simp only [Act.put, List.setIfInBounds_toArray, List.set_cons_zero, List.set_cons_succ]
        refine wpAnyH_ready (rs := [9]) (by kernel_rfl) (by simp) ?_
        refine AllReadyH.cons (o := ⟨some 76, _, _, _, _, _⟩) rfl (fun K hK => ?_) AllReadyH.nil
        refine ite_yes (by kernel_rfl) ?_
        go_simp
        go_at_call 7
        (with_reducible refine (known_any _).mono ?_)
        rintro e w9 ⟨rfl, hb9⟩
        have hBEL : Below wr.heap.size wr w9 := below_step (a := wr) (by repeat (first | (with_reducible exact HBC.out) | (with_reducible refine belowDrewR ?_) | (with_reducible refine below_dnR ?_ _) | (with_reducible refine below_al ?_ _))) hb9
        have HBC := Lib.hid hBEL
        clear hb9 hBEL
        refine hK.out _ _ ⟨range_below (a := wr) HBC.out hla rra, range_below (a := wr) HBC.out hlb rrb⟩ (fun hHeld => ?_)
        clear hK K
        conv => arg 8; simp only [Act.put, List.setIfInBounds_toArray, List.set_cons_zero, List.set_cons_succ]
        refine wpAnyH_take (i := 10) (oi := ⟨some 77, _, _, _, _, _⟩) (v := ?_) rfl (by kernel_rfl) (by kernel_rfl) (by kernel_rfl) (fun _ _ _ h => h) (Or.inl ⟨by kernel_rfl, ?_⟩) hHeld ?_
        rotate_left
        · intro w hSw
          (try dsimp only at hSw)
          go_simp
          all_goals (with_reducible rfl)
        conv => arg 8; simp only [Act.put, List.setIfInBounds_toArray, List.set_cons_zero, List.set_cons_succ]
        refine wpAnyH_take (i := 11) (oi := ⟨some 8, _, _, _, _, _⟩) (v := ?_) rfl (by kernel_rfl) (by kernel_rfl) (by kernel_rfl) (fun _ _ _ h => h) (Or.inl ⟨by kernel_rfl, ?_⟩) hHeld ?_
        rotate_left
        · intro w hSw
          (try dsimp only at hSw)
          go_simp
          all_goals (with_reducible rfl)
        conv => arg 8; simp only [Act.put, List.setIfInBounds_toArray, List.set_cons_zero, List.set_cons_succ]
        refine wpAnyH_done (by kernel_rfl) ?_ _
        refine NoPanic.normal ?_
        go_wp2_with fail
        go_ret
        exact ⟨rfl, HBR.out.trans (HBC.out.mono hzr)⟩
      · skip
        obtain rfl := hc
        have hls : Op.bytesLess sa.toList sb.toList = false := HLS.out
        have heq : ∀ W, (binOp .eql 25 (keyV a) (keyV b')).run Try.prog W = .ok (.bool true) W := HEQ.out
        have hla := HRA.out.lt
        have hlb := HRB.out.lt
        have hlc := HRC.out.lt
        have HBX := Lib.hid (Below.refl wr.heap.size wr)
        have ga := HRA.out
        have gb := HRB.out
        have gc := HRC.out
        have a1 := keyOk_mk (blk_key ga)
        have a2 := loadK_eq (blk_key ga)
        have b1 := keyOk_mk (blk_key gb)
        have b2 := loadK_eq (blk_key gb)
        have c1 := keyOk_mk (blk_key gc)
        have c2 := loadK_eq (blk_key gc)
        clear ga gb gc
        go_wp2_with fail
        (with_reducible refine (HAB.out _).mono ?_)
        rintro e w1 ⟨rfl, hb⟩
        have hbel : Below wr.heap.size wr w1 := below_step (a := wr) HBX.out hb
        have HBX := Lib.hid hbel
        clear hb hbel a1 a2 b1 b2 c1 c2
        have ga := HRA.out.below HBX.out hla
        have gb := HRB.out.below HBX.out hlb
        have gc := HRC.out.below HBX.out hlc
        have a1 := keyOk_mk (blk_key ga)
        have a2 := loadK_eq (blk_key ga)
        have b1 := keyOk_mk (blk_key gb)
        have b2 := loadK_eq (blk_key gb)
        have c1 := keyOk_mk (blk_key gc)
        have c2 := loadK_eq (blk_key gc)
        clear ga gb gc
        go_wp2_with fail
        (with_reducible refine (HRC4.out _).mono ?_)
        rintro e w2 ⟨rfl, hb⟩
        have hbel : Below wr.heap.size wr w2 := below_step (a := wr) HBX.out hb
        have HBX := Lib.hid hbel
        clear hb hbel a1 a2 b1 b2 c1 c2
        have ga := HRA.out.below HBX.out hla
        have gb := HRB.out.below HBX.out hlb
        have gc := HRC.out.below HBX.out hlc
        have a1 := keyOk_mk (blk_key ga)
        have a2 := loadK_eq (blk_key ga)
        have b1 := keyOk_mk (blk_key gb)
        have b2 := loadK_eq (blk_key gb)
        have c1 := keyOk_mk (blk_key gc)
        have c2 := loadK_eq (blk_key gc)
        clear ga gb gc
        go_wp2_with fail
        (with_reducible refine (HBA.out _).mono ?_)
        rintro e w3 ⟨rfl, hb⟩
        have hbel : Below wr.heap.size wr w3 := below_step (a := wr) HBX.out hb
        have HBX := Lib.hid hbel
        clear hb hbel a1 a2 b1 b2 c1 c2
        have ga := HRA.out.below HBX.out hla
        have gb := HRB.out.below HBX.out hlb
        have gc := HRC.out.below HBX.out hlc
        have a1 := keyOk_mk (blk_key ga)
        have a2 := loadK_eq (blk_key ga)
        have b1 := keyOk_mk (blk_key gb)
        have b2 := loadK_eq (blk_key gb)
        have c1 := keyOk_mk (blk_key gc)
        have c2 := loadK_eq (blk_key gc)
        clear ga gb gc
        go_upto_region 8 with (fail)
        clear a1 a2 b1 b2 c1 c2
        have rra : wr.rangeAt w.heap.size 0 (bytesOf 32 a) := blk_range HRA.out
        have rrb : wr.rangeAt (w.heap.size + 1) 0 (bytesOf 32 b') := blk_range HRB.out
        have ra := range_below HBX.out hla rra
        have rb := range_below HBX.out hlb rrb
        have hu := Try.underlying25
        have hia := key_size a
        have hib := key_size b'
        have HBC := Lib.hid HBX.out
        refine wp_region_noPanic ?_
        refine wp_region_held_drew (S := fun w' => w'.rangeAt w.heap.size 0 (bytesOf 32 a) ∧ w'.rangeAt (w.heap.size + 1) 0 (bytesOf 32 b')) (by kernel_rfl) ⟨ra, rb⟩ (fun hHeld => ?_)
        refine wpAnyH_take (i := 0) (oi := ⟨some 67, _, _, _, _, _⟩) (v := ?_) rfl (by kernel_rfl) (by kernel_rfl) (by kernel_rfl) (fun _ _ _ h => h) (Or.inl ⟨by kernel_rfl, ?_⟩) hHeld ?_
        rotate_left
        · intro w hSw
          (try dsimp only at hSw)
          go_simp
          all_goals (with_reducible rfl)
        conv => arg 8; simp only [Act.put, List.setIfInBounds_toArray, List.set_cons_zero, List.set_cons_succ]
        refine wpAnyH_take (i := 1) (oi := ⟨some 68, _, _, _, _, _⟩) (v := ?_) rfl (by kernel_rfl) (by kernel_rfl) (by kernel_rfl) (fun _ _ _ h => h) (Or.inl ⟨by kernel_rfl, ?_⟩) hHeld ?_
        rotate_left
        · intro w hSw
          (try dsimp only at hSw)
          go_simp
          all_goals (with_reducible rfl)
        conv => arg 8; simp only [Act.put, List.setIfInBounds_toArray, List.set_cons_zero, List.set_cons_succ]
        refine wpAnyH_take (i := 2) (oi := ⟨some 69, _, _, _, _, _⟩) (v := _) rfl (by kernel_rfl) (by kernel_rfl) (by kernel_rfl) (fun _ _ _ h => h) (yieldsIf_load_mid (S := fun w' => w'.rangeAt w.heap.size 0 (bytesOf 32 a) ∧ w'.rangeAt (w.heap.size + 1) 0 (bytesOf 32 b')) (by kernel_rfl) _ _ rfl _ _ rfl _ _ (fun w hSw => hSw.1) hu rfl hia) hHeld ?_
        conv => arg 8; simp only [Act.put, List.setIfInBounds_toArray, List.set_cons_zero, List.set_cons_succ]
        refine wpAnyH_take (i := 4) (oi := ⟨some 71, _, _, _, _, _⟩) (v := _) rfl (by kernel_rfl) (by kernel_rfl) (by kernel_rfl) (fun _ _ _ h => h) (yieldsIf_load_mid (S := fun w' => w'.rangeAt w.heap.size 0 (bytesOf 32 a) ∧ w'.rangeAt (w.heap.size + 1) 0 (bytesOf 32 b')) (by kernel_rfl) _ _ rfl _ _ rfl _ _ (fun w hSw => hSw.2) hu rfl hib) hHeld ?_
        conv => arg 8; simp only [Act.put, List.setIfInBounds_toArray, List.set_cons_zero, List.set_cons_succ]
        refine wpAnyH_ready (rs := [3]) (by kernel_rfl) (by simp) ?_
        refine AllReadyH.cons (o := ⟨some 70, _, _, _, _, _⟩) rfl (fun K hK => ?_) AllReadyH.nil
        go_simp
        go_at_call 12
        (with_reducible refine (HFA.out _).mono ?_)
        rintro e w9 ⟨rfl, hb9⟩
        have hBEL : Below wr.heap.size wr w9 := below_step (a := wr) (by repeat (first | (with_reducible exact HBC.out) | (with_reducible refine belowDrewR ?_) | (with_reducible refine below_dnR ?_ _) | (with_reducible refine below_al ?_ _))) hb9
        have HBC := Lib.hid hBEL
        clear hb9 hBEL
        refine hK.out _ _ ⟨range_below (a := wr) HBC.out hla rra, range_below (a := wr) HBC.out hlb rrb⟩ (fun hHeld => ?_)
        clear hK K
        conv => arg 8; simp only [Act.put, List.setIfInBounds_toArray, List.set_cons_zero, List.set_cons_succ]
        refine wpAnyH_ready (rs := [5]) (by kernel_rfl) (by simp) ?_
        refine AllReadyH.cons (o := ⟨some 72, _, _, _, _, _⟩) rfl (fun K hK => ?_) AllReadyH.nil
        go_simp
        go_at_call 12
        (with_reducible refine (HFB.out _).mono ?_)
        rintro e w9 ⟨rfl, hb9⟩
        have hBEL : Below wr.heap.size wr w9 := below_step (a := wr) (by repeat (first | (with_reducible exact HBC.out) | (with_reducible refine belowDrewR ?_) | (with_reducible refine below_dnR ?_ _) | (with_reducible refine below_al ?_ _))) hb9
        have HBC := Lib.hid hBEL
        clear hb9 hBEL
        refine hK.out _ _ ⟨range_below (a := wr) HBC.out hla rra, range_below (a := wr) HBC.out hlb rrb⟩ (fun hHeld => ?_)
        clear hK K
        conv => arg 8; simp only [Act.put, List.setIfInBounds_toArray, List.set_cons_zero, List.set_cons_succ]
        refine wpAnyH_take (i := 6) (oi := ⟨some 73, _, _, _, _, _⟩) (v := ?_) rfl (by kernel_rfl) (by kernel_rfl) (by kernel_rfl) (fun _ _ _ h => h) (Or.inl ⟨by kernel_rfl, ?_⟩) hHeld ?_
        rotate_left
        · intro w hSw
          (try dsimp only at hSw)
          go_simp
          all_goals (with_reducible rfl)
        conv => arg 8; simp only [Act.put, List.setIfInBounds_toArray, List.set_cons_zero, List.set_cons_succ]
        refine wpAnyH_take (i := 7) (oi := ⟨some 74, _, _, _, _, _⟩) (v := ?_) rfl (by kernel_rfl) (by kernel_rfl) (by kernel_rfl) (fun _ _ _ h => h) (Or.inl ⟨by kernel_rfl, ?_⟩) hHeld ?_
        rotate_left
        · intro w hSw
          (try dsimp only at hSw)
          go_simp
          all_goals (with_reducible rfl)
        conv => arg 8; simp only [Act.put, List.setIfInBounds_toArray, List.set_cons_zero, List.set_cons_succ]
        refine wpAnyH_take (i := 8) (oi := ⟨some 75, _, _, _, _, _⟩) (v := ?_) rfl (by kernel_rfl) (by kernel_rfl) (by kernel_rfl) (fun _ _ _ h => h) (Or.inl ⟨by kernel_rfl, ?_⟩) hHeld ?_
        rotate_left
        · intro w hSw
          (try dsimp only at hSw)
          go_simp
          all_goals (with_reducible rfl)
        conv => arg 8; simp only [Act.put, List.setIfInBounds_toArray, List.set_cons_zero, List.set_cons_succ]
        refine wpAnyH_ready (rs := [9]) (by kernel_rfl) (by simp) ?_
        refine AllReadyH.cons (o := ⟨some 76, _, _, _, _, _⟩) rfl (fun K hK => ?_) AllReadyH.nil
        refine ite_yes (by kernel_rfl) ?_
        go_simp
        go_at_call 7
        (with_reducible refine (known_any _).mono ?_)
        rintro e w9 ⟨rfl, hb9⟩
        have hBEL : Below wr.heap.size wr w9 := below_step (a := wr) (by repeat (first | (with_reducible exact HBC.out) | (with_reducible refine belowDrewR ?_) | (with_reducible refine below_dnR ?_ _) | (with_reducible refine below_al ?_ _))) hb9
        have HBC := Lib.hid hBEL
        clear hb9 hBEL
        refine hK.out _ _ ⟨range_below (a := wr) HBC.out hla rra, range_below (a := wr) HBC.out hlb rrb⟩ (fun hHeld => ?_)
        clear hK K
        conv => arg 8; simp only [Act.put, List.setIfInBounds_toArray, List.set_cons_zero, List.set_cons_succ]
        refine wpAnyH_take (i := 10) (oi := ⟨some 77, _, _, _, _, _⟩) (v := ?_) rfl (by kernel_rfl) (by kernel_rfl) (by kernel_rfl) (fun _ _ _ h => h) (Or.inl ⟨by kernel_rfl, ?_⟩) hHeld ?_
        rotate_left
        · intro w hSw
          (try dsimp only at hSw)
          go_simp
          all_goals (with_reducible rfl)
        conv => arg 8; simp only [Act.put, List.setIfInBounds_toArray, List.set_cons_zero, List.set_cons_succ]
        refine wpAnyH_take (i := 11) (oi := ⟨some 8, _, _, _, _, _⟩) (v := ?_) rfl (by kernel_rfl) (by kernel_rfl) (by kernel_rfl) (fun _ _ _ h => h) (Or.inl ⟨by kernel_rfl, ?_⟩) hHeld ?_
        rotate_left
        · intro w hSw
          (try dsimp only at hSw)
          go_simp
          all_goals (with_reducible rfl)
        conv => arg 8; simp only [Act.put, List.setIfInBounds_toArray, List.set_cons_zero, List.set_cons_succ]
        refine wpAnyH_done (by kernel_rfl) ?_ _
        refine NoPanic.normal ?_
        go_wp2_with fail
        go_ret
        exact ⟨rfl, HBR.out.trans (HBC.out.mono hzr)⟩
      · skip
        obtain rfl := hc
        have hls : Op.bytesLess sa.toList sb.toList = false := HLS.out
        have heq : ∀ W, (binOp .eql 25 (keyV a) (keyV b')).run Try.prog W = .ok (.bool false) W := HEQ.out
        have hla := HRA.out.lt
        have hlb := HRB.out.lt
        have hlc := HRC.out.lt
        have HBX := Lib.hid (Below.refl wr.heap.size wr)
        have ga := HRA.out
        have gb := HRB.out
        have gc := HRC.out
        have a1 := keyOk_mk (blk_key ga)
        have a2 := loadK_eq (blk_key ga)
        have b1 := keyOk_mk (blk_key gb)
        have b2 := loadK_eq (blk_key gb)
        have c1 := keyOk_mk (blk_key gc)
        have c2 := loadK_eq (blk_key gc)
        clear ga gb gc
        go_wp2_with fail
        (with_reducible refine (HAB.out _).mono ?_)
        rintro e w1 ⟨rfl, hb⟩
        have hbel : Below wr.heap.size wr w1 := below_step (a := wr) HBX.out hb
        have HBX := Lib.hid hbel
        clear hb hbel a1 a2 b1 b2 c1 c2
        have ga := HRA.out.below HBX.out hla
        have gb := HRB.out.below HBX.out hlb
        have gc := HRC.out.below HBX.out hlc
        have a1 := keyOk_mk (blk_key ga)
        have a2 := loadK_eq (blk_key ga)
        have b1 := keyOk_mk (blk_key gb)
        have b2 := loadK_eq (blk_key gb)
        have c1 := keyOk_mk (blk_key gc)
        have c2 := loadK_eq (blk_key gc)
        clear ga gb gc
        go_wp2_with fail
        (with_reducible refine (HRC4.out _).mono ?_)
        rintro e w2 ⟨rfl, hb⟩
        have hbel : Below wr.heap.size wr w2 := below_step (a := wr) HBX.out hb
        have HBX := Lib.hid hbel
        clear hb hbel a1 a2 b1 b2 c1 c2
        have ga := HRA.out.below HBX.out hla
        have gb := HRB.out.below HBX.out hlb
        have gc := HRC.out.below HBX.out hlc
        have a1 := keyOk_mk (blk_key ga)
        have a2 := loadK_eq (blk_key ga)
        have b1 := keyOk_mk (blk_key gb)
        have b2 := loadK_eq (blk_key gb)
        have c1 := keyOk_mk (blk_key gc)
        have c2 := loadK_eq (blk_key gc)
        clear ga gb gc
        go_wp2_with fail
        (with_reducible refine (HBA.out _).mono ?_)
        rintro e w3 ⟨rfl, hb⟩
        have hbel : Below wr.heap.size wr w3 := below_step (a := wr) HBX.out hb
        have HBX := Lib.hid hbel
        clear hb hbel a1 a2 b1 b2 c1 c2
        have ga := HRA.out.below HBX.out hla
        have gb := HRB.out.below HBX.out hlb
        have gc := HRC.out.below HBX.out hlc
        have a1 := keyOk_mk (blk_key ga)
        have a2 := loadK_eq (blk_key ga)
        have b1 := keyOk_mk (blk_key gb)
        have b2 := loadK_eq (blk_key gb)
        have c1 := keyOk_mk (blk_key gc)
        have c2 := loadK_eq (blk_key gc)
        clear ga gb gc
        go_upto_region 8 with (fail)
        clear a1 a2 b1 b2 c1 c2
        have rra : wr.rangeAt w.heap.size 0 (bytesOf 32 a) := blk_range HRA.out
        have rrb : wr.rangeAt (w.heap.size + 1) 0 (bytesOf 32 b') := blk_range HRB.out
        have ra := range_below HBX.out hla rra
        have rb := range_below HBX.out hlb rrb
        have hu := Try.underlying25
        have hia := key_size a
        have hib := key_size b'
        have HBC := Lib.hid HBX.out
        refine wp_region_noPanic ?_
        refine wp_region_held_drew (S := fun w' => w'.rangeAt w.heap.size 0 (bytesOf 32 a) ∧ w'.rangeAt (w.heap.size + 1) 0 (bytesOf 32 b')) (by kernel_rfl) ⟨ra, rb⟩ (fun hHeld => ?_)
        refine wpAnyH_take (i := 0) (oi := ⟨some 67, _, _, _, _, _⟩) (v := ?_) rfl (by kernel_rfl) (by kernel_rfl) (by kernel_rfl) (fun _ _ _ h => h) (Or.inl ⟨by kernel_rfl, ?_⟩) hHeld ?_
        rotate_left
        · intro w hSw
          (try dsimp only at hSw)
          go_simp
          all_goals (with_reducible rfl)
        conv => arg 8; simp only [Act.put, List.setIfInBounds_toArray, List.set_cons_zero, List.set_cons_succ]
        refine wpAnyH_take (i := 1) (oi := ⟨some 68, _, _, _, _, _⟩) (v := ?_) rfl (by kernel_rfl) (by kernel_rfl) (by kernel_rfl) (fun _ _ _ h => h) (Or.inl ⟨by kernel_rfl, ?_⟩) hHeld ?_
        rotate_left
        · intro w hSw
          (try dsimp only at hSw)
          go_simp
          all_goals (with_reducible rfl)
        conv => arg 8; simp only [Act.put, List.setIfInBounds_toArray, List.set_cons_zero, List.set_cons_succ]
        refine wpAnyH_take (i := 2) (oi := ⟨some 69, _, _, _, _, _⟩) (v := _) rfl (by kernel_rfl) (by kernel_rfl) (by kernel_rfl) (fun _ _ _ h => h) (yieldsIf_load_mid (S := fun w' => w'.rangeAt w.heap.size 0 (bytesOf 32 a) ∧ w'.rangeAt (w.heap.size + 1) 0 (bytesOf 32 b')) (by kernel_rfl) _ _ rfl _ _ rfl _ _ (fun w hSw => hSw.1) hu rfl hia) hHeld ?_
        conv => arg 8; simp only [Act.put, List.setIfInBounds_toArray, List.set_cons_zero, List.set_cons_succ]
        refine wpAnyH_take (i := 4) (oi := ⟨some 71, _, _, _, _, _⟩) (v := _) rfl (by kernel_rfl) (by kernel_rfl) (by kernel_rfl) (fun _ _ _ h => h) (yieldsIf_load_mid (S := fun w' => w'.rangeAt w.heap.size 0 (bytesOf 32 a) ∧ w'.rangeAt (w.heap.size + 1) 0 (bytesOf 32 b')) (by kernel_rfl) _ _ rfl _ _ rfl _ _ (fun w hSw => hSw.2) hu rfl hib) hHeld ?_
        conv => arg 8; simp only [Act.put, List.setIfInBounds_toArray, List.set_cons_zero, List.set_cons_succ]
        refine wpAnyH_ready (rs := [3]) (by kernel_rfl) (by simp) ?_
        refine AllReadyH.cons (o := ⟨some 70, _, _, _, _, _⟩) rfl (fun K hK => ?_) AllReadyH.nil
        go_simp
        go_at_call 12
        (with_reducible refine (HFA.out _).mono ?_)
        rintro e w9 ⟨rfl, hb9⟩
        have hBEL : Below wr.heap.size wr w9 := below_step (a := wr) (by repeat (first | (with_reducible exact HBC.out) | (with_reducible refine belowDrewR ?_) | (with_reducible refine below_dnR ?_ _) | (with_reducible refine below_al ?_ _))) hb9
        have HBC := Lib.hid hBEL
        clear hb9 hBEL
        refine hK.out _ _ ⟨range_below (a := wr) HBC.out hla rra, range_below (a := wr) HBC.out hlb rrb⟩ (fun hHeld => ?_)
        clear hK K
        conv => arg 8; simp only [Act.put, List.setIfInBounds_toArray, List.set_cons_zero, List.set_cons_succ]
        refine wpAnyH_ready (rs := [5]) (by kernel_rfl) (by simp) ?_
        refine AllReadyH.cons (o := ⟨some 72, _, _, _, _, _⟩) rfl (fun K hK => ?_) AllReadyH.nil
        go_simp
        go_at_call 12
        (with_reducible refine (HFB.out _).mono ?_)
        rintro e w9 ⟨rfl, hb9⟩
        have hBEL : Below wr.heap.size wr w9 := below_step (a := wr) (by repeat (first | (with_reducible exact HBC.out) | (with_reducible refine belowDrewR ?_) | (with_reducible refine below_dnR ?_ _) | (with_reducible refine below_al ?_ _))) hb9
        have HBC := Lib.hid hBEL
        clear hb9 hBEL
        refine hK.out _ _ ⟨range_below (a := wr) HBC.out hla rra, range_below (a := wr) HBC.out hlb rrb⟩ (fun hHeld => ?_)
        clear hK K
        conv => arg 8; simp only [Act.put, List.setIfInBounds_toArray, List.set_cons_zero, List.set_cons_succ]
        refine wpAnyH_take (i := 6) (oi := ⟨some 73, _, _, _, _, _⟩) (v := ?_) rfl (by kernel_rfl) (by kernel_rfl) (by kernel_rfl) (fun _ _ _ h => h) (Or.inl ⟨by kernel_rfl, ?_⟩) hHeld ?_
        rotate_left
        · intro w hSw
          (try dsimp only at hSw)
          go_simp
          all_goals (with_reducible rfl)
        conv => arg 8; simp only [Act.put, List.setIfInBounds_toArray, List.set_cons_zero, List.set_cons_succ]
        refine wpAnyH_take (i := 7) (oi := ⟨some 74, _, _, _, _, _⟩) (v := ?_) rfl (by kernel_rfl) (by kernel_rfl) (by kernel_rfl) (fun _ _ _ h => h) (Or.inl ⟨by kernel_rfl, ?_⟩) hHeld ?_
        rotate_left
        · intro w hSw
          (try dsimp only at hSw)
          go_simp
          all_goals (with_reducible rfl)
        conv => arg 8; simp only [Act.put, List.setIfInBounds_toArray, List.set_cons_zero, List.set_cons_succ]
        refine wpAnyH_take (i := 8) (oi := ⟨some 75, _, _, _, _, _⟩) (v := ?_) rfl (by kernel_rfl) (by kernel_rfl) (by kernel_rfl) (fun _ _ _ h => h) (Or.inl ⟨by kernel_rfl, ?_⟩) hHeld ?_
        rotate_left
        · intro w hSw
          (try dsimp only at hSw)
          go_simp
          all_goals (with_reducible rfl)
        conv => arg 8; simp only [Act.put, List.setIfInBounds_toArray, List.set_cons_zero, List.set_cons_succ]
        refine wpAnyH_ready (rs := [9]) (by kernel_rfl) (by simp) ?_
        refine AllReadyH.cons (o := ⟨some 76, _, _, _, _, _⟩) rfl (fun K hK => ?_) AllReadyH.nil
        refine ite_yes (by kernel_rfl) ?_
        go_simp
        go_at_call 7
        (with_reducible refine (known_any _).mono ?_)
        rintro e w9 ⟨rfl, hb9⟩
        have hBEL : Below wr.heap.size wr w9 := below_step (a := wr) (by repeat (first | (with_reducible exact HBC.out) | (with_reducible refine belowDrewR ?_) | (with_reducible refine below_dnR ?_ _) | (with_reducible refine below_al ?_ _))) hb9
        have HBC := Lib.hid hBEL
        clear hb9 hBEL
        refine hK.out _ _ ⟨range_below (a := wr) HBC.out hla rra, range_below (a := wr) HBC.out hlb rrb⟩ (fun hHeld => ?_)
        clear hK K
        conv => arg 8; simp only [Act.put, List.setIfInBounds_toArray, List.set_cons_zero, List.set_cons_succ]
        refine wpAnyH_take (i := 10) (oi := ⟨some 77, _, _, _, _, _⟩) (v := ?_) rfl (by kernel_rfl) (by kernel_rfl) (by kernel_rfl) (fun _ _ _ h => h) (Or.inl ⟨by kernel_rfl, ?_⟩) hHeld ?_
        rotate_left
        · intro w hSw
          (try dsimp only at hSw)
          go_simp
          all_goals (with_reducible rfl)
        conv => arg 8; simp only [Act.put, List.setIfInBounds_toArray, List.set_cons_zero, List.set_cons_succ]
        refine wpAnyH_take (i := 11) (oi := ⟨some 8, _, _, _, _, _⟩) (v := ?_) rfl (by kernel_rfl) (by kernel_rfl) (by kernel_rfl) (fun _ _ _ h => h) (Or.inl ⟨by kernel_rfl, ?_⟩) hHeld ?_
        rotate_left
        · intro w hSw
          (try dsimp only at hSw)
          go_simp
          all_goals (with_reducible rfl)
        conv => arg 8; simp only [Act.put, List.setIfInBounds_toArray, List.set_cons_zero, List.set_cons_succ]
        refine wpAnyH_done (by kernel_rfl) ?_ _
        refine NoPanic.normal ?_
        go_wp2_with fail
        go_ret
        exact ⟨rfl, HBR.out.trans (HBC.out.mono hzr)⟩
end Go.Proofs.Ytbhklhpeppaadaa
