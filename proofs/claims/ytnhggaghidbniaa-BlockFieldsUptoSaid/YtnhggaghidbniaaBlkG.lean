/- BlockHashes. -/
import Derived.Test.YtnhggaghidbniaaBlkJ
namespace Go.Proofs.Ytnhggaghidbniaa
open Go.RowKit
set_option linter.unusedVariables false
set_option linter.unusedSimpArgs false
open Wir ShaW Sha
set_option maxRecDepth 100000

theorem lenSum_mem : ∀ (txs : List (List UInt8)) (b : List UInt8), b ∈ txs → b.length ≤ lenSum txs
  | [], b, h => by simp at h
  | a :: l, b, h => by
    unfold lenSum
    rw [List.map_cons, List.sum_cons]
    rcases List.mem_cons.1 h with rfl | h
    · omega
    · have ih := lenSum_mem l b h
      unfold lenSum at ih
      omega
theorem rangeAt_belowG {w w' : World} {g o : Nat} {l : List Value} (h : w.rangeAt g o l) (hb : Below w.heap.size w w') : w'.rangeAt g o l := fun j u hu => (hb.cell (p := ⟨g, o + j, none⟩) (World.block_lt_of_cell? w _ (h j u hu))).trans (h j u hu)
def HsS (g1 g2 : Nat) (x y : Hd) (tv : Value) (w' : World) : Prop := w'.rangeAt g1 0 (hdCells x) ∧ w'.rangeAt g2 0 (blCells y tv)
theorem HsS.below {g1 g2 : Nat} {x y : Hd} {tv : Value} {w w' : World} (h : HsS g1 g2 x y tv w) (hb : Below w.heap.size w w') : HsS g1 g2 x y tv w' :=
  ⟨fun j u hu => (hb.cell (p := ⟨g1, 0 + j, none⟩) (World.block_lt_of_cell? w _ (h.1 j u hu))).trans (h.1 j u hu), fun j u hu => (hb.cell (p := ⟨g2, 0 + j, none⟩) (World.block_lt_of_cell? w _ (h.2 j u hu))).trans (h.2 j u hu)⟩
theorem HsS.hd {g1 g2 : Nat} {x y : Hd} {tv : Value} {w : World} (h : HsS g1 g2 x y tv w) : w.rangeAt g2 0 (hdCells y) := fun j u hu => h.2 j u (blCells_hd hu)
theorem HsS.tv {g1 g2 : Nat} {x y : Hd} {tv : Value} {w : World} (h : HsS g1 g2 x y tv w) : w.cell? ⟨g2, 131, none⟩ = some tv := by
  have h1 := h.2 131 tv (blCells_tv y tv)
  rwa [Nat.zero_add] at h1
theorem hd_rangeAll {w : World} {g : Nat} {x : Hd} (h : Blk w g 25 (hdCells x).toArray) : w.rangeAt g 0 (hdCells x) := hd_range h
set_option maxHeartbeats 8000000 in
attribute [local go_sem ↓] wp_load_hd wp_store_hd wp_load_bl wp_store_bl in
theorem blockHashes_any (w : World) (x : Hd) (hx : x.fits) (y : Hd) (hy : y.fits) (tv : Value) (txs : List (List UInt8)) (ht : TxsAt w tv txs) (hsz : lenSum txs + txs.length ≤ 4611686018427387904) :
    Calls Try.prog 6 #[hdV x, blV y tv] w fun e w' => e = .returned (.bool true) ∧ Below w.heap.size w w' := by
  obtain ⟨ca, hca⟩ : ∃ ca, (hdCells x).toArray = ca := ⟨_, rfl⟩
  obtain ⟨cb, hcb⟩ : ∃ cb, (blCells y tv).toArray = cb := ⟨_, rfl⟩
  have o1 := ht.oneCell
  show Calls _ _ #[.agg (hdCells x).toArray, .agg (blCells y tv).toArray] _ _
  rw [hca, hcb]
  have HCA := Lib.hid hca
  have HCB := Lib.hid hcb
  have HT := Lib.hid ht
  have HX := Lib.hid hx
  have HY := Lib.hid hy
  have HSZ := Lib.hid hsz
  clear hca hcb ht hx hy hsz o1
  go_enter Try.func6, Try.ntmps6
  go_upto_region 1 with (fail)
  generalize hw1 : World.alloc (World.alloc _ _) _ = w1
  have hb1 : Below w.heap.size w w1 := by rw [← hw1]; exact ((Below.refl _ _).alloc (Nat.le_refl _) _).alloc (by simp) _
  have hk1 : Blk w1 w.heap.size 25 (hdCells x).toArray := by rw [← hw1, HCA.out]; exact Blk.alloc (heap_alloc_new _ _) _
  have hk2 : Blk w1 (w.heap.size + 1) 28 (blCells y tv).toArray := by rw [← hw1, HCB.out]; exact heap_alloc_at _ _ _ (by simp)
  obtain ⟨g1, hg1⟩ : ∃ g1, w.heap.size = g1 := ⟨_, rfl⟩
  obtain ⟨g2, hg2⟩ : ∃ g2, g1 + 1 = g2 := ⟨_, rfl⟩
  rw [hg1, hg2] at hk2
  rw [hg1] at hk1
  rw [show (⟨w.heap.size, 0, none⟩ : Addr) = ⟨g1, 0, none⟩ by rw [hg1], show (⟨w.heap.size + 1, 0, none⟩ : Addr) = ⟨g2, 0, none⟩ by rw [hg1, hg2]]
  have HB1 := Lib.hid hb1
  have HT1 := Lib.hid (HT.out.below hb1)
  have HST : Hid (HsS g1 g2 x y tv w1) := Lib.hid ⟨hd_rangeAll hk1, bl_rangeAll hk2⟩
  clear hw1 hb1 hk1 hk2 hg1 hg2 HT
  have hrg := HST.out.2
  have q1 := aggOk_mk hrg (blCells_len _ _)
  have q2 := loadN_eq hrg (blCells_len _ _)
  clear hrg
  obtain ⟨nn, hnn⟩ : ∃ nn, txs.length + lenSum txs = nn := ⟨_, rfl⟩
  have HNN := Lib.hid hnn
  go_wp2_with fail
  refine (small_any w1 y tv txs HT1.out HSZ.out).mono ?_
  rintro e w2 ⟨rfl, hb2⟩
  rw [hnn]
  have HB2 := Lib.hid (HB1.out.trans (hb2.mono HB1.out.size))
  have HT2 := Lib.hid (HT1.out.below hb2)
  have HK2 := Lib.hid (HST.out.below hb2)
  clear hb2 hnn q1 q2 HB1 HT1 HST
  by_cases hsm : nn < 300
  case neg =>
    rw [decide_eq_false hsm]
    clear hsm HNN
    go_wp2_with fail
    refine (known_any w2).mono ?_
    rintro e w3 ⟨rfl, hb3⟩
    have HB3 := Lib.hid (HB2.out.trans (hb3.mono HB2.out.size))
    clear hb3
    go_wp2_with fail
    go_ret
    exact ⟨rfl, HB3.out⟩
  rw [decide_eq_true hsm]
  have HLB : Hid (∀ b ∈ txs, b.length ≤ 1073741823) := Lib.hid (fun b hb => by have := lenSum_mem txs b hb; have := HNN.out; omega)
  have HLN : Hid (txs.length ≤ 1073741823) := Lib.hid (by have := HNN.out; omega)
  clear hsm HNN HSZ
  go_upto_region 3 with (fail)
  have hKS := HK2.out
  have hu := Try.underlying28
  have huh := Try.underlying25
  have ix := hd_sizeK x
  have iy := hd_sizeK y
  have HEQ : Hid (∀ W (k : Ky), (binOp .eql 23 (keyV k) (keyV k)).run Try.prog W = .ok (.bool true) W) := Lib.hid (fun W k => by rw [run_keyEq, keyEq_refl])
  obtain ⟨kx, hkx⟩ : ∃ kx, hashK x = kx := ⟨_, rfl⟩
  obtain ⟨ky, hky⟩ : ∃ ky, hashK y = ky := ⟨_, rfl⟩
  obtain ⟨kr, hkr⟩ : ∃ kr, rootT txs = kr := ⟨_, rfl⟩
  have eqx : ∀ W, (binOp .eql 23 (keyV kx) (keyV kx)).run Try.prog W = .ok (.bool true) W := fun W => HEQ.out W kx
  have eqy : ∀ W, (binOp .eql 23 (keyV ky) (keyV ky)).run Try.prog W = .ok (.bool true) W := fun W => HEQ.out W ky
  have eqr : ∀ W, (binOp .eql 23 (keyV kr) (keyV kr)).run Try.prog W = .ok (.bool true) W := fun W => HEQ.out W kr
  have HBC := Lib.hid (Below.refl w2.heap.size w2)
  have HH1 : Hid (∀ W, Calls Try.prog 20 #[hdV x] W fun e w' => e = .returned (keyV kx) ∧ Below W.heap.size W w') := Lib.hid (fun W => by rw [← hkx]; exact bhash_any W x HX.out)
  have HH2 : Hid (∀ W, Calls Try.prog 21 #[hdV x] W fun e w' => e = .returned (keyV kx) ∧ Below W.heap.size W w') := Lib.hid (fun W => by rw [← hkx]; exact rhash_any W x HX.out)
  have HH3 : Hid (∀ W, Calls Try.prog 20 #[hdV y] W fun e w' => e = .returned (keyV ky) ∧ Below W.heap.size W w') := Lib.hid (fun W => by rw [← hky]; exact bhash_any W y HY.out)
  have HH4 : Hid (∀ W, Calls Try.prog 21 #[hdV y] W fun e w' => e = .returned (keyV ky) ∧ Below W.heap.size W w') := Lib.hid (fun W => by rw [← hky]; exact rhash_any W y HY.out)
  have HR1 : Hid (∀ W, Below w2.heap.size w2 W → Calls Try.prog 22 #[tv] W fun e w' => e = .returned (keyV kr) ∧ Below W.heap.size W w') := Lib.hid (fun W hW => by rw [← hkr]; exact broot_any W tv txs (HT2.out.below hW) HLB.out HLN.out)
  have HR2 : Hid (∀ W, Below w2.heap.size w2 W → Calls Try.prog 23 #[tv] W fun e w' => e = .returned (keyV kr) ∧ Below W.heap.size W w') := Lib.hid (fun W hW => by rw [← hkr]; exact rroot_t W tv txs (HT2.out.below hW) HLB.out HLN.out)
  clear hkx hky hkr
  refine wp_region_noPanic ?_
  refine wp_region_held_drew (S := HsS g1 g2 x y tv) (by kernel_rfl) hKS (fun hHeld => ?_)
  refine wpAnyH_take (i := 0) (oi := ⟨some 9, _, _, _, _, _⟩) (v := _) rfl (by kernel_rfl) (by kernel_rfl) (by kernel_rfl) (fun _ _ _ h => h) (yieldsIf_load_mid (S := HsS g1 g2 x y tv) (by kernel_rfl) _ _ rfl _ _ rfl _ _ (fun w hSw => hSw.1) huh rfl ix) hHeld ?_
  conv => arg 8; simp only [Act.put, List.setIfInBounds_toArray, List.set_cons_zero, List.set_cons_succ]
  refine wpAnyH_take (i := 2) (oi := ⟨some 11, _, _, _, _, _⟩) (v := _) rfl (by kernel_rfl) (by kernel_rfl) (by kernel_rfl) (fun _ _ _ h => h) (yieldsIf_load_mid (S := HsS g1 g2 x y tv) (by kernel_rfl) _ _ rfl _ _ rfl _ _ (fun w hSw => hSw.1) huh rfl ix) hHeld ?_
  conv => arg 8; simp only [Act.put, List.setIfInBounds_toArray, List.set_cons_zero, List.set_cons_succ]
  refine wpAnyH_ready (rs := [1]) (by kernel_rfl) (by simp) ?_
  refine AllReadyH.cons (o := ⟨some 10, _, _, _, _, _⟩) rfl (fun K hK => ?_) AllReadyH.nil
  go_simp
  go_at_call 20
  (with_reducible refine (HH1.out _).mono ?_)
  rintro e w3 ⟨rfl, hb3⟩
  have HD3 := Lib.hid (below_step (a := w2) (belowDrewR (Below.refl _ _)) hb3)
  clear hb3
  refine hK.out _ _ (HK2.out.below HD3.out) (fun hHeld => ?_)
  clear hK K
  conv => arg 8; simp only [Act.put, List.setIfInBounds_toArray, List.set_cons_zero, List.set_cons_succ]
  refine wpAnyH_ready (rs := [3]) (by kernel_rfl) (by simp) ?_
  refine AllReadyH.cons (o := ⟨some 12, _, _, _, _, _⟩) rfl (fun K hK => ?_) AllReadyH.nil
  go_simp
  go_at_call 21
  (with_reducible refine (HH2.out _).mono ?_)
  rintro e w4 ⟨rfl, hb4⟩
  have HD4 := Lib.hid (HD3.out.trans (hb4.mono HD3.out.size))
  clear hb4
  refine hK.out _ _ (HK2.out.below HD4.out) (fun hHeld => ?_)
  clear hK K
  conv => arg 8; simp only [Act.put, List.setIfInBounds_toArray, List.set_cons_zero, List.set_cons_succ]
  refine wpAnyH_take (i := 4) (oi := ⟨some 13, _, _, _, _, _⟩) (v := ?_) rfl (by kernel_rfl) (by kernel_rfl) (by kernel_rfl) (fun _ _ _ h => h) (Or.inl ⟨by kernel_rfl, ?_⟩) hHeld ?_
  rotate_left
  · intro w hSw
    (try dsimp only at hSw)
    go_simp
    all_goals (with_reducible rfl)
  conv => arg 8; simp only [Act.put, List.setIfInBounds_toArray, List.set_cons_zero, List.set_cons_succ]
  refine wpAnyH_take (i := 5) (oi := ⟨some 14, _, _, _, _, _⟩) (v := ?_) rfl (by kernel_rfl) (by kernel_rfl) (by kernel_rfl) (fun _ _ _ h => h) (Or.inl ⟨by kernel_rfl, ?_⟩) hHeld ?_
  rotate_left
  · intro w hSw
    (try dsimp only at hSw)
    go_simp
    all_goals (with_reducible rfl)
  conv => arg 8; simp only [Act.put, List.setIfInBounds_toArray, List.set_cons_zero, List.set_cons_succ]
  refine wpAnyH_take (i := 6) (oi := ⟨some 15, _, _, _, _, _⟩) (v := ?_) rfl (by kernel_rfl) (by kernel_rfl) (by kernel_rfl) (fun _ _ _ h => h) (Or.inl ⟨by kernel_rfl, ?_⟩) hHeld ?_
  rotate_left
  · intro w hSw
    (try dsimp only at hSw)
    go_simp
    all_goals (with_reducible rfl)
  conv => arg 8; simp only [Act.put, List.setIfInBounds_toArray, List.set_cons_zero, List.set_cons_succ]
  refine wpAnyH_take (i := 7) (oi := ⟨some 16, _, _, _, _, _⟩) (v := _) rfl (by kernel_rfl) (by kernel_rfl) (by kernel_rfl) (fun _ _ _ h => h) (yieldsIf_load_mid (S := HsS g1 g2 x y tv) (by kernel_rfl) _ _ rfl _ _ rfl _ _ (fun w hSw => hSw.hd) huh rfl iy) hHeld ?_
  conv => arg 8; simp only [Act.put, List.setIfInBounds_toArray, List.set_cons_zero, List.set_cons_succ]
  refine wpAnyH_take (i := 9) (oi := ⟨some 18, _, _, _, _, _⟩) (v := ?_) rfl (by kernel_rfl) (by kernel_rfl) (by kernel_rfl) (fun _ _ _ h => h) (Or.inl ⟨by kernel_rfl, ?_⟩) hHeld ?_
  rotate_left
  · intro w hSw
    (try dsimp only at hSw)
    go_simp
    all_goals (with_reducible rfl)
  conv => arg 8; simp only [Act.put, List.setIfInBounds_toArray, List.set_cons_zero, List.set_cons_succ]
  refine wpAnyH_take (i := 10) (oi := ⟨some 19, _, _, _, _, _⟩) (v := _) rfl (by kernel_rfl) (by kernel_rfl) (by kernel_rfl) (fun _ _ _ h => h) (yieldsIf_load_mid (S := HsS g1 g2 x y tv) (by kernel_rfl) _ _ rfl _ _ rfl _ _ (fun w hSw => hSw.hd) huh rfl iy) hHeld ?_
  conv => arg 8; simp only [Act.put, List.setIfInBounds_toArray, List.set_cons_zero, List.set_cons_succ]
  refine wpAnyH_ready (rs := [8]) (by kernel_rfl) (by simp) ?_
  refine AllReadyH.cons (o := ⟨some 17, _, _, _, _, _⟩) rfl (fun K hK => ?_) AllReadyH.nil
  refine ite_yes (by kernel_rfl) ?_
  go_simp
  go_at_call 20
  (with_reducible refine (HH3.out _).mono ?_)
  rintro e w5 ⟨rfl, hb5⟩
  have HD5 := Lib.hid (HD4.out.trans (hb5.mono HD4.out.size))
  clear hb5
  refine hK.out _ _ (HK2.out.below HD5.out) (fun hHeld => ?_)
  clear hK K
  conv => arg 8; simp only [Act.put, List.setIfInBounds_toArray, List.set_cons_zero, List.set_cons_succ]
  refine wpAnyH_ready (rs := [11]) (by kernel_rfl) (by simp) ?_
  refine AllReadyH.cons (o := ⟨some 20, _, _, _, _, _⟩) rfl (fun K hK => ?_) AllReadyH.nil
  refine ite_yes (by kernel_rfl) ?_
  go_simp
  go_at_call 21
  (with_reducible refine (HH4.out _).mono ?_)
  rintro e w6 ⟨rfl, hb6⟩
  have HD6 := Lib.hid (HD5.out.trans (hb6.mono HD5.out.size))
  clear hb6
  refine hK.out _ _ (HK2.out.below HD6.out) (fun hHeld => ?_)
  clear hK K
  conv => arg 8; simp only [Act.put, List.setIfInBounds_toArray, List.set_cons_zero, List.set_cons_succ]
  refine wpAnyH_take (i := 12) (oi := ⟨some 21, _, _, _, _, _⟩) (v := ?_) rfl (by kernel_rfl) (by kernel_rfl) (by kernel_rfl) (fun _ _ _ h => h) (Or.inl ⟨by kernel_rfl, ?_⟩) hHeld ?_
  rotate_left
  · intro w hSw
    (try dsimp only at hSw)
    go_simp
    all_goals (with_reducible rfl)
  conv => arg 8; simp only [Act.put, List.setIfInBounds_toArray, List.set_cons_zero, List.set_cons_succ]
  refine wpAnyH_take (i := 13) (oi := ⟨some 22, _, _, _, _, _⟩) (v := ?_) rfl (by kernel_rfl) (by kernel_rfl) (by kernel_rfl) (fun _ _ _ h => h) (Or.inl ⟨by kernel_rfl, ?_⟩) hHeld ?_
  rotate_left
  · intro w hSw
    (try dsimp only at hSw)
    go_simp
    all_goals (with_reducible rfl)
  conv => arg 8; simp only [Act.put, List.setIfInBounds_toArray, List.set_cons_zero, List.set_cons_succ]
  refine wpAnyH_take (i := 14) (oi := ⟨some 23, _, _, _, _, _⟩) (v := ?_) rfl (by kernel_rfl) (by kernel_rfl) (by kernel_rfl) (fun _ _ _ h => h) (Or.inl ⟨by kernel_rfl, ?_⟩) hHeld ?_
  rotate_left
  · intro w hSw
    (try dsimp only at hSw)
    go_simp
    all_goals (with_reducible rfl)
  conv => arg 8; simp only [Act.put, List.setIfInBounds_toArray, List.set_cons_zero, List.set_cons_succ]
  refine wpAnyH_take (i := 15) (oi := ⟨some 24, _, _, _, _, _⟩) (v := ?_) rfl (by kernel_rfl) (by kernel_rfl) (by kernel_rfl) (fun _ _ _ h => h) (Or.inl ⟨by kernel_rfl, ?_⟩) hHeld ?_
  rotate_left
  · intro w hSw
    (try dsimp only at hSw)
    go_simp
    all_goals (with_reducible rfl)
  conv => arg 8; simp only [Act.put, List.setIfInBounds_toArray, List.set_cons_zero, List.set_cons_succ]
  refine wpAnyH_take (i := 16) (oi := ⟨some 25, _, _, _, _, _⟩) (v := ?_) rfl (by kernel_rfl) (by kernel_rfl) (by kernel_rfl) (fun _ _ _ h => h) (Or.inl ⟨by kernel_rfl, ?_⟩) hHeld ?_
  rotate_left
  · intro w hSw
    have htv := hSw.tv
    go_simp
    all_goals (with_reducible rfl)
  conv => arg 8; simp only [Act.put, List.setIfInBounds_toArray, List.set_cons_zero, List.set_cons_succ]
  refine wpAnyH_take (i := 18) (oi := ⟨some 27, _, _, _, _, _⟩) (v := ?_) rfl (by kernel_rfl) (by kernel_rfl) (by kernel_rfl) (fun _ _ _ h => h) (Or.inl ⟨by kernel_rfl, ?_⟩) hHeld ?_
  rotate_left
  · intro w hSw
    (try dsimp only at hSw)
    go_simp
    all_goals (with_reducible rfl)
  conv => arg 8; simp only [Act.put, List.setIfInBounds_toArray, List.set_cons_zero, List.set_cons_succ]
  refine wpAnyH_take (i := 19) (oi := ⟨some 28, _, _, _, _, _⟩) (v := ?_) rfl (by kernel_rfl) (by kernel_rfl) (by kernel_rfl) (fun _ _ _ h => h) (Or.inl ⟨by kernel_rfl, ?_⟩) hHeld ?_
  rotate_left
  · intro w hSw
    have htv := hSw.tv
    go_simp
    all_goals (with_reducible rfl)
  conv => arg 8; simp only [Act.put, List.setIfInBounds_toArray, List.set_cons_zero, List.set_cons_succ]
  refine wpAnyH_ready (rs := [17]) (by kernel_rfl) (by simp) ?_
  refine AllReadyH.cons (o := ⟨some 26, _, _, _, _, _⟩) rfl (fun K hK => ?_) AllReadyH.nil
  refine ite_yes (by kernel_rfl) ?_
  go_simp
  go_at_call 22
  (with_reducible refine (HR1.out _ HD6.out).mono ?_)
  rintro e w7 ⟨rfl, hb7⟩
  have HD7 := Lib.hid (HD6.out.trans (hb7.mono HD6.out.size))
  clear hb7
  refine hK.out _ _ (HK2.out.below HD7.out) (fun hHeld => ?_)
  clear hK K
  conv => arg 8; simp only [Act.put, List.setIfInBounds_toArray, List.set_cons_zero, List.set_cons_succ]
  refine wpAnyH_ready (rs := [20]) (by kernel_rfl) (by simp) ?_
  refine AllReadyH.cons (o := ⟨some 29, _, _, _, _, _⟩) rfl (fun K hK => ?_) AllReadyH.nil
  refine ite_yes (by kernel_rfl) ?_
  go_simp
  go_at_call 23
  (with_reducible refine (HR2.out _ HD7.out).mono ?_)
  rintro e w8 ⟨rfl, hb8⟩
  have HD8 := Lib.hid (HD7.out.trans (hb8.mono HD7.out.size))
  clear hb8
  refine hK.out _ _ (HK2.out.below HD8.out) (fun hHeld => ?_)
  clear hK K
  conv => arg 8; simp only [Act.put, List.setIfInBounds_toArray, List.set_cons_zero, List.set_cons_succ]
  refine wpAnyH_take (i := 21) (oi := ⟨some 30, _, _, _, _, _⟩) (v := ?_) rfl (by kernel_rfl) (by kernel_rfl) (by kernel_rfl) (fun _ _ _ h => h) (Or.inl ⟨by kernel_rfl, ?_⟩) hHeld ?_
  rotate_left
  · intro w hSw
    (try dsimp only at hSw)
    go_simp
    all_goals (with_reducible rfl)
  conv => arg 8; simp only [Act.put, List.setIfInBounds_toArray, List.set_cons_zero, List.set_cons_succ]
  refine wpAnyH_take (i := 22) (oi := ⟨some 31, _, _, _, _, _⟩) (v := ?_) rfl (by kernel_rfl) (by kernel_rfl) (by kernel_rfl) (fun _ _ _ h => h) (Or.inl ⟨by kernel_rfl, ?_⟩) hHeld ?_
  rotate_left
  · intro w hSw
    (try dsimp only at hSw)
    go_simp
    all_goals (with_reducible rfl)
  conv => arg 8; simp only [Act.put, List.setIfInBounds_toArray, List.set_cons_zero, List.set_cons_succ]
  refine wpAnyH_take (i := 23) (oi := ⟨some 32, _, _, _, _, _⟩) (v := ?_) rfl (by kernel_rfl) (by kernel_rfl) (by kernel_rfl) (fun _ _ _ h => h) (Or.inl ⟨by kernel_rfl, ?_⟩) hHeld ?_
  rotate_left
  · intro w hSw
    (try dsimp only at hSw)
    go_simp
    all_goals (with_reducible rfl)
  conv => arg 8; simp only [Act.put, List.setIfInBounds_toArray, List.set_cons_zero, List.set_cons_succ]
  refine wpAnyH_ready (rs := [24]) (by kernel_rfl) (by simp) ?_
  refine AllReadyH.cons (o := ⟨some 33, _, _, _, _, _⟩) rfl (fun K hK => ?_) AllReadyH.nil
  refine ite_yes (by kernel_rfl) ?_
  go_simp
  go_at_call 9
  (with_reducible refine (known_any _).mono ?_)
  rintro e w9 ⟨rfl, hb9⟩
  have HD9 := Lib.hid (HD8.out.trans (hb9.mono HD8.out.size))
  clear hb9
  refine hK.out _ _ (HK2.out.below HD9.out) (fun hHeld => ?_)
  clear hK K
  conv => arg 8; simp only [Act.put, List.setIfInBounds_toArray, List.set_cons_zero, List.set_cons_succ]
  refine wpAnyH_take (i := 25) (oi := ⟨some 34, _, _, _, _, _⟩) (v := ?_) rfl (by kernel_rfl) (by kernel_rfl) (by kernel_rfl) (fun _ _ _ h => h) (Or.inl ⟨by kernel_rfl, ?_⟩) hHeld ?_
  rotate_left
  · intro w hSw
    (try dsimp only at hSw)
    go_simp
    all_goals (with_reducible rfl)
  conv => arg 8; simp only [Act.put, List.setIfInBounds_toArray, List.set_cons_zero, List.set_cons_succ]
  refine wpAnyH_take (i := 26) (oi := ⟨some 4, _, _, _, _, _⟩) (v := ?_) rfl (by kernel_rfl) (by kernel_rfl) (by kernel_rfl) (fun _ _ _ h => h) (Or.inl ⟨by kernel_rfl, ?_⟩) hHeld ?_
  rotate_left
  · intro w hSw
    (try dsimp only at hSw)
    go_simp
    all_goals (with_reducible rfl)
  conv => arg 8; simp only [Act.put, List.setIfInBounds_toArray, List.set_cons_zero, List.set_cons_succ]
  refine wpAnyH_done (by kernel_rfl) ?_ _
  refine NoPanic.normal ?_
  have HBZ := Lib.hid (HB2.out.trans (HD9.out.mono HB2.out.size))
  go_wp2_with fail
  go_ret
  exact ⟨rfl, HBZ.out⟩
end Go.Proofs.Ytnhggaghidbniaa
