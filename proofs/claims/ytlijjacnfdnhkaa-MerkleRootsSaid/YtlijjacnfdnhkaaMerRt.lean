/- MerkleRoots: the walk. -/
import Derived.Test.YtlijjacnfdnhkaaMerMany
import Derived.Deep.RegionHeld3
namespace Go.Proofs.Ytlijjacnfdnhkaa
open Go.RowKit
set_option linter.unusedVariables false
open ShaW Sha

theorem key_size : (Try.prog.info? 24).map (·.size) = some 32 := by kernel_rfl
theorem below_al {a W : World} (h : Below a.heap.size a W) (o : Obj) : Below a.heap.size a (W.alloc o) := h.alloc h.size o
theorem below_step {a W w' : World} (h : Below a.heap.size a W) (h' : Below W.heap.size W w') : Below a.heap.size a w' := h.trans (h'.mono h.size)
theorem blk_range {w : World} {g : Nat} {t : TypeId} {k : Ky} (h : Blk w g t (bytesOf 32 k).toArray) : w.rangeAt g 0 (bytesOf 32 k) := fun j v hv => by
  rw [Nat.zero_add, h.cell]; exact List.getElem?_toArray.trans hv

theorem range_below {a W : World} {g : Nat} {cs : List Value} (h : Below a.heap.size a W) (hg : g < a.heap.size) (hr : a.rangeAt g 0 cs) : W.rangeAt g 0 cs := fun j v hv => (h.cell (p := ⟨g, 0 + j, none⟩) hg).trans (hr j v hv)
set_option maxRecDepth 100000 in
set_option maxHeartbeats 40000000 in
attribute [local go_sem ↓] wp_load_k in
theorem merRoots_any (w : World) (A0 A : Option Addr) (n0 c0 n c b o : Nat) (L : Nat → Nat) (F0 : Nat → Nat → UInt8) (ka kb : Ky) (f : Nat → UInt8) (x : Nat) (hx : x < 256) (hrows : RowsL w A0 n0 c0 L F0) (hL : ∀ r, r < n0 → L r ≤ 140737488355328)
    (hnc : n ≤ c) (hcm : c ≤ 9223372036854775807) (hA : 0 < n → A = some ⟨b, o, none⟩) (hc : ∀ j, j < n → w.cell? ⟨b, o + j, none⟩ = some (.int .u8 ((f j).toNat : Int))) :
    Calls Try.prog 3 #[.slice A0 n0 c0, .agg (bytesOf 32 ka).toArray, .agg (bytesOf 32 kb).toArray, .slice A n c, .int .u8 (x : Int)] w fun e w' => e = .returned (.bool true) ∧ Below w.heap.size w w' := by
  obtain ⟨ca, hca⟩ : ∃ ca, (bytesOf 32 ka).toArray = ca := ⟨_, rfl⟩
  obtain ⟨cb, hcb⟩ : ∃ cb, (bytesOf 32 kb).toArray = cb := ⟨_, rfl⟩
  rw [hca, hcb]
  have HCA := Lib.hid hca
  have HCB := Lib.hid hcb
  have HRW := Lib.hid hrows
  have HL := Lib.hid hL
  have hR : ∀ W, Below w.heap.size w W → Reads W W.heap.size 1 A n (bytesOf n f) := fun W hW => by
    have h0 : Reads w w.heap.size 1 A n (bytesOf n f) := Reads.flat (o := o) (fun hp => ⟨hA hp, World.block_lt_of_cell? w _ (hc 0 hp)⟩) hc
    exact (h0.below hW).more hW.size
  have HR := Lib.hid hR
  have hlv : ∀ W, Below w.heap.size w W → Calls Try.prog 9 #[.slice A n c, .int .u8 (x : Int)] W fun e w' => ∃ v, e = .returned v ∧ ListL W w' v (x % 20) (leafF n f) ∧ Below W.heap.size W w' := fun W hW =>
    leaves_any W A n c b o f x hx hnc hcm hA (fun j hj => (hW.cell (p := ⟨b, o + j, none⟩) (World.block_lt_of_cell? w _ (hc j hj))).trans (hc j hj))
  have HLV := Lib.hid hlv
  clear hca hcb hrows hL hR hlv hA hc
  go_enter Try.func3, Try.ntmps3
  go_wp2_with fail
  generalize hwa : World.alloc (World.alloc w _) _ = wa
  have hb0 : Below w.heap.size w wa := by rw [← hwa]; exact ((Below.refl _ _).alloc (Nat.le_refl _) _).alloc (by simp) _
  have ha0 : Blk wa w.heap.size 24 ca := by rw [← hwa]; exact (Blk.new w _ ca).alloc _
  have hb0' : Blk wa (w.heap.size + 1) 24 cb := by rw [← hwa]; exact heap_alloc_at _ _ _ (by simp)
  clear hwa
  have hrw : RowsL wa A0 n0 c0 L F0 := by
    obtain ⟨h1, h2, b1, o1, h3, h4⟩ := HRW.out
    refine ⟨h1, h2, b1, o1, h3, fun r hr => ?_⟩
    obtain ⟨A', c', e, hd, hl⟩ := h4 r hr
    exact ⟨A', c', (hb0.cell (p := ⟨b1, o1 + r, none⟩) (World.block_lt_of_cell? w _ e)).trans e, (hd.below hb0).more hb0.size, hl⟩
  have HRA := Lib.hid hrw
  have HA0 := Lib.hid ha0
  have HB0' := Lib.hid hb0'
  have HB0 := Lib.hid hb0
  have hz0 := hb0.size
  have hzb := hb0'.lt
  clear hrw ha0 hb0' hb0
  refine (many_any wa A0 n0 c0 L F0 HRA.out HL.out).mono ?_
  rintro e w1 ⟨bm, rfl, rfl, hsm⟩
  cases bm with
  | true =>
    clear hsm
    go_wp2_with fail
    refine (known_any _).mono ?_
    rintro e w1 ⟨rfl, hb1⟩
    have HB := Lib.hid (HB0.out.trans (hb1.mono hz0))
    clear hb1
    go_wp2_with fail
    go_ret
    exact ⟨rfl, HB.out⟩
  | false =>
    obtain ⟨hn40, hl300⟩ := hsm rfl
    have HRS := Lib.hid (HRA.out.rows (fun r hr => Nat.le_trans (hl300 r hr) (by omega)))
    clear hsm hl300
    by_cases hbig : 100 < n
    · have hbi : (100 : Int) < n := by omega
      go_wp2_with fail
      refine (known_any _).mono ?_
      rintro e w1 ⟨rfl, hb1⟩
      have HB := Lib.hid (HB0.out.trans (hb1.mono hz0))
      clear hb1
      go_wp2_with fail
      go_ret
      exact ⟨rfl, HB.out⟩
    · have hbi : ¬ (100 : Int) < n := by omega
      obtain ⟨m, hm⟩ : ∃ m, x % 20 = m := ⟨_, rfl⟩
      have hml : m < 20 := by omega
      obtain ⟨F, hF⟩ : ∃ F, leafF n f = F := ⟨_, rfl⟩
      simp only [hm, hF] at HLV
      clear hm hF
      go_wp2_with fail
      refine (HLV.out wa HB0.out).mono ?_
      rintro e w1 ⟨v, rfl, hl, hb1⟩
      obtain ⟨Al, cl, rfl, hrows⟩ := hl.rows hb1
      obtain ⟨kl, hkl⟩ : ∃ kl, rootK m (fun _ => 1) F = kl := ⟨_, rfl⟩
      obtain ⟨k0, hk0⟩ : ∃ k0, rootK n0 L F0 = k0 := ⟨_, rfl⟩
      obtain ⟨ki, hki⟩ : ∃ ki, innerK ka kb = ki := ⟨_, rfl⟩
      obtain ⟨kf, hkf⟩ : ∃ kf, leafK n f = kf := ⟨_, rfl⟩
      have hr0 := HRS.out.below hb1
      have hMR0 : Hid (∀ W, Below w1.heap.size w1 W → Calls Try.prog 10 #[.slice A0 n0 c0] W fun e w' => e = .returned (keyV k0) ∧ Below W.heap.size W w') := fun W hW => by rw [← hk0]; exact mroot_any n0 (by omega) W A0 c0 _ _ (hr0.below hW)
      have hRR0 : Hid (∀ W, Below w1.heap.size w1 W → Calls Try.prog 11 #[.slice A0 n0 c0] W fun e w' => e = .returned (keyV k0) ∧ Below W.heap.size W w') := fun W hW => by rw [← hk0]; exact rroot_any n0 (by omega) W A0 c0 _ _ (hr0.below hW)
      have hMR1 : Hid (∀ W, Below w1.heap.size w1 W → Calls Try.prog 10 #[.slice Al m cl] W fun e w' => e = .returned (keyV kl) ∧ Below W.heap.size W w') := fun W hW => by rw [← hkl]; exact mroot_any m (by omega) W Al cl _ _ (hrows.below hW)
      have hRR1 : Hid (∀ W, Below w1.heap.size w1 W → Calls Try.prog 11 #[.slice Al m cl] W fun e w' => e = .returned (keyV kl) ∧ Below W.heap.size W w') := fun W hW => by rw [← hkl]; exact rroot_any m (by omega) W Al cl _ _ (hrows.below hW)
      have hMI : Hid (∀ W, Calls Try.prog 12 #[keyV ka, keyV kb] W fun e w' => e = .returned (keyV ki) ∧ Below W.heap.size W w') := fun W => by rw [← hki]; exact minner_any W ka kb
      have hRI : Hid (∀ W, Calls Try.prog 13 #[keyV ka, keyV kb] W fun e w' => e = .returned (keyV ki) ∧ Below W.heap.size W w') := fun W => by rw [← hki]; exact rinner_any W ka kb
      have hb1w := HB0.out.trans (hb1.mono hz0)
      have hML : Hid (∀ W, Below w1.heap.size w1 W → Calls Try.prog 14 #[.slice A n c] W fun e w' => e = .returned (keyV kf) ∧ Below W.heap.size W w') := fun W hW => by rw [← hkf]; exact mleaf_any W A n c f (HR.out W (hb1w.trans (hW.mono hb1w.size))) (by omega)
      have hRL : Hid (∀ W, Below w1.heap.size w1 W → Calls Try.prog 15 #[.slice A n c] W fun e w' => e = .returned (keyV kf) ∧ Below W.heap.size W w') := fun W hW => by rw [← hkf]; exact rleaf_any W A n c f (HR.out W (hb1w.trans (hW.mono hb1w.size))) (by omega)
      have r6 : w1.rangeAt w.heap.size 0 (bytesOf 32 ka) := blk_range (by rw [HCA.out]; exact HA0.out.below hb1 HA0.out.lt)
      have r7 : w1.rangeAt (w.heap.size + 1) 0 (bytesOf 32 kb) := blk_range (by rw [HCB.out]; exact HB0'.out.below hb1 HB0'.out.lt)
      have hl6 : w.heap.size < w1.heap.size := by have := hb1.size; omega
      have hl7 : w.heap.size + 1 < w1.heap.size := by have := hb1.size; omega
      have HB1 := Lib.hid hb1w
      have HBC := Lib.hid (Below.refl w1.heap.size w1)
      clear hl hb1 hrows hkl hk0 hki hkf hr0 hb1w
      have hu := Try.underlying24
      have hi6 : (Try.prog.info? 24).map (·.size) = some (bytesOf 32 ka).length := by rw [bytesOf_length]; exact key_size
      have hi7 : (Try.prog.info? 24).map (·.size) = some (bytesOf 32 kb).length := by rw [bytesOf_length]; exact key_size
      have heq := fun (W : World) (k : Ky) => run_keyEq W k k
      simp only [keyEq_refl] at heq
      go_wp2_with fail
      refine wp_region_noPanic ?_
      refine wp_region_held_drew (S := (fun w' => w'.rangeAt w.heap.size 0 (bytesOf 32 ka) ∧ w'.rangeAt (w.heap.size + 1) 0 (bytesOf 32 kb))) (by kernel_rfl) ⟨r6, r7⟩ (fun hHeld => ?_)
      refine wpAnyH_take (i := 0) (oi := _) (v := ?_) rfl (by kernel_rfl) (by kernel_rfl) (by kernel_rfl) (fun _ _ _ h => h) (Or.inl ⟨by rfl, ?_⟩) (by assumption) ?_
      rotate_left
      · intro w hSw
        (try dsimp only at hSw)
        go_simp
        all_goals (with_reducible rfl)
      try simp only [Act.put, List.setIfInBounds_toArray, List.set_cons_zero, List.set_cons_succ]
      refine wpAnyH_take (i := 2) (oi := _) (v := ?_) rfl (by kernel_rfl) (by kernel_rfl) (by kernel_rfl) (fun _ _ _ h => h) (Or.inl ⟨by rfl, ?_⟩) (by assumption) ?_
      rotate_left
      · intro w hSw
        (try dsimp only at hSw)
        go_simp
        all_goals (with_reducible rfl)
      try simp only [Act.put, List.setIfInBounds_toArray, List.set_cons_zero, List.set_cons_succ]
      refine wpAnyH_ready (rs := [1]) (by kernel_rfl) (by simp) ?_
      refine AllReadyH.cons rfl (fun K hK => ?_) AllReadyH.nil
      go_simp
      go_at_call 10
      (with_reducible refine (hMR0.out _ ?_).mono ?_)
      · repeat (first | (with_reducible exact HBC.out) | (with_reducible refine belowDrew ?_) | (with_reducible refine below_al ?_ _))
      rintro e w2 ⟨rfl, hb2⟩
      have hBEL : Below w1.heap.size w1 w2 := below_step (a := w1) (by repeat (first | (with_reducible exact HBC.out) | (with_reducible refine belowDrew ?_) | (with_reducible refine below_al ?_ _))) hb2
      have HBC := Lib.hid hBEL
      clear hb2 hBEL
      refine hK.out _ _ (by with_reducible exact ⟨range_below HBC.out hl6 r6, range_below HBC.out hl7 r7⟩) (fun hHeld => ?_)
      clear hK K
      try simp only [Act.put, List.setIfInBounds_toArray, List.set_cons_zero, List.set_cons_succ]
      refine wpAnyH_ready (rs := [3]) (by kernel_rfl) (by simp) ?_
      refine AllReadyH.cons rfl (fun K hK => ?_) AllReadyH.nil
      go_simp
      go_at_call 11
      (with_reducible refine (hRR0.out _ ?_).mono ?_)
      · repeat (first | (with_reducible exact HBC.out) | (with_reducible refine belowDrew ?_) | (with_reducible refine below_al ?_ _))
      rintro e w2 ⟨rfl, hb2⟩
      have hBEL : Below w1.heap.size w1 w2 := below_step (a := w1) (by repeat (first | (with_reducible exact HBC.out) | (with_reducible refine belowDrew ?_) | (with_reducible refine below_al ?_ _))) hb2
      have HBC := Lib.hid hBEL
      clear hb2 hBEL
      refine hK.out _ _ (by with_reducible exact ⟨range_below HBC.out hl6 r6, range_below HBC.out hl7 r7⟩) (fun hHeld => ?_)
      clear hK K
      try simp only [Act.put, List.setIfInBounds_toArray, List.set_cons_zero, List.set_cons_succ]
      refine wpAnyH_take (i := 4) (oi := _) (v := ?_) rfl (by kernel_rfl) (by kernel_rfl) (by kernel_rfl) (fun _ _ _ h => h) (Or.inl ⟨by rfl, ?_⟩) (by assumption) ?_
      rotate_left
      · intro w hSw
        (try dsimp only at hSw)
        go_simp
        all_goals (with_reducible rfl)
      try simp only [Act.put, List.setIfInBounds_toArray, List.set_cons_zero, List.set_cons_succ]
      refine wpAnyH_take (i := 5) (oi := _) (v := ?_) rfl (by kernel_rfl) (by kernel_rfl) (by kernel_rfl) (fun _ _ _ h => h) (Or.inl ⟨by rfl, ?_⟩) (by assumption) ?_
      rotate_left
      · intro w hSw
        (try dsimp only at hSw)
        go_simp
        all_goals (with_reducible rfl)
      try simp only [Act.put, List.setIfInBounds_toArray, List.set_cons_zero, List.set_cons_succ]
      refine wpAnyH_take (i := 6) (oi := _) (v := ?_) rfl (by kernel_rfl) (by kernel_rfl) (by kernel_rfl) (fun _ _ _ h => h) (Or.inl ⟨by rfl, ?_⟩) (by assumption) ?_
      rotate_left
      · intro w hSw
        (try dsimp only at hSw)
        go_simp
        all_goals (with_reducible rfl)
      try simp only [Act.put, List.setIfInBounds_toArray, List.set_cons_zero, List.set_cons_succ]
      refine wpAnyH_take (i := 8) (oi := _) (v := ?_) rfl (by kernel_rfl) (by kernel_rfl) (by kernel_rfl) (fun _ _ _ h => h) (Or.inl ⟨by rfl, ?_⟩) (by assumption) ?_
      rotate_left
      · intro w hSw
        (try dsimp only at hSw)
        go_simp
        all_goals (with_reducible rfl)
      try simp only [Act.put, List.setIfInBounds_toArray, List.set_cons_zero, List.set_cons_succ]
      refine wpAnyH_ready (rs := [7]) (by kernel_rfl) (by simp) ?_
      refine AllReadyH.cons rfl (fun K hK => ?_) AllReadyH.nil
      go_simp
      go_at_call 10
      (with_reducible refine (hMR1.out _ ?_).mono ?_)
      · repeat (first | (with_reducible exact HBC.out) | (with_reducible refine belowDrew ?_) | (with_reducible refine below_al ?_ _))
      rintro e w2 ⟨rfl, hb2⟩
      have hBEL : Below w1.heap.size w1 w2 := below_step (a := w1) (by repeat (first | (with_reducible exact HBC.out) | (with_reducible refine belowDrew ?_) | (with_reducible refine below_al ?_ _))) hb2
      have HBC := Lib.hid hBEL
      clear hb2 hBEL
      refine hK.out _ _ (by with_reducible exact ⟨range_below HBC.out hl6 r6, range_below HBC.out hl7 r7⟩) (fun hHeld => ?_)
      clear hK K
      try simp only [Act.put, List.setIfInBounds_toArray, List.set_cons_zero, List.set_cons_succ]
      refine wpAnyH_ready (rs := [9]) (by kernel_rfl) (by simp) ?_
      refine AllReadyH.cons rfl (fun K hK => ?_) AllReadyH.nil
      go_simp
      go_at_call 11
      (with_reducible refine (hRR1.out _ ?_).mono ?_)
      · repeat (first | (with_reducible exact HBC.out) | (with_reducible refine belowDrew ?_) | (with_reducible refine below_al ?_ _))
      rintro e w2 ⟨rfl, hb2⟩
      have hBEL : Below w1.heap.size w1 w2 := below_step (a := w1) (by repeat (first | (with_reducible exact HBC.out) | (with_reducible refine belowDrew ?_) | (with_reducible refine below_al ?_ _))) hb2
      have HBC := Lib.hid hBEL
      clear hb2 hBEL
      refine hK.out _ _ (by with_reducible exact ⟨range_below HBC.out hl6 r6, range_below HBC.out hl7 r7⟩) (fun hHeld => ?_)
      clear hK K
      try simp only [Act.put, List.setIfInBounds_toArray, List.set_cons_zero, List.set_cons_succ]
      refine wpAnyH_take (i := 10) (oi := _) (v := ?_) rfl (by kernel_rfl) (by kernel_rfl) (by kernel_rfl) (fun _ _ _ h => h) (Or.inl ⟨by rfl, ?_⟩) (by assumption) ?_
      rotate_left
      · intro w hSw
        (try dsimp only at hSw)
        go_simp
        all_goals (with_reducible rfl)
      try simp only [Act.put, List.setIfInBounds_toArray, List.set_cons_zero, List.set_cons_succ]
      refine wpAnyH_take (i := 11) (oi := _) (v := ?_) rfl (by kernel_rfl) (by kernel_rfl) (by kernel_rfl) (fun _ _ _ h => h) (Or.inl ⟨by rfl, ?_⟩) (by assumption) ?_
      rotate_left
      · intro w hSw
        (try dsimp only at hSw)
        go_simp
        all_goals (with_reducible rfl)
      try simp only [Act.put, List.setIfInBounds_toArray, List.set_cons_zero, List.set_cons_succ]
      refine wpAnyH_take (i := 12) (oi := _) (v := ?_) rfl (by kernel_rfl) (by kernel_rfl) (by kernel_rfl) (fun _ _ _ h => h) (Or.inl ⟨by rfl, ?_⟩) (by assumption) ?_
      rotate_left
      · intro w hSw
        (try dsimp only at hSw)
        go_simp
        all_goals (with_reducible rfl)
      try simp only [Act.put, List.setIfInBounds_toArray, List.set_cons_zero, List.set_cons_succ]
      refine wpAnyH_take (i := 13) (oi := _) (v := _) rfl (by kernel_rfl) (by kernel_rfl) (by kernel_rfl) (fun _ _ _ h => h) (yieldsIf_load_mid (S := (fun w' => w'.rangeAt w.heap.size 0 (bytesOf 32 ka) ∧ w'.rangeAt (w.heap.size + 1) 0 (bytesOf 32 kb))) (by rfl) _ _ rfl _ _ rfl _ _ (fun w hSw => hSw.1) hu rfl hi6) (by assumption) ?_
      try simp only [Act.put, List.setIfInBounds_toArray, List.set_cons_zero, List.set_cons_succ]
      refine wpAnyH_take (i := 14) (oi := _) (v := _) rfl (by kernel_rfl) (by kernel_rfl) (by kernel_rfl) (fun _ _ _ h => h) (yieldsIf_load_mid (S := (fun w' => w'.rangeAt w.heap.size 0 (bytesOf 32 ka) ∧ w'.rangeAt (w.heap.size + 1) 0 (bytesOf 32 kb))) (by rfl) _ _ rfl _ _ rfl _ _ (fun w hSw => hSw.2) hu rfl hi7) (by assumption) ?_
      try simp only [Act.put, List.setIfInBounds_toArray, List.set_cons_zero, List.set_cons_succ]
      refine wpAnyH_take (i := 16) (oi := _) (v := _) rfl (by kernel_rfl) (by kernel_rfl) (by kernel_rfl) (fun _ _ _ h => h) (yieldsIf_load_mid (S := (fun w' => w'.rangeAt w.heap.size 0 (bytesOf 32 ka) ∧ w'.rangeAt (w.heap.size + 1) 0 (bytesOf 32 kb))) (by rfl) _ _ rfl _ _ rfl _ _ (fun w hSw => hSw.1) hu rfl hi6) (by assumption) ?_
      try simp only [Act.put, List.setIfInBounds_toArray, List.set_cons_zero, List.set_cons_succ]
      refine wpAnyH_take (i := 17) (oi := _) (v := _) rfl (by kernel_rfl) (by kernel_rfl) (by kernel_rfl) (fun _ _ _ h => h) (yieldsIf_load_mid (S := (fun w' => w'.rangeAt w.heap.size 0 (bytesOf 32 ka) ∧ w'.rangeAt (w.heap.size + 1) 0 (bytesOf 32 kb))) (by rfl) _ _ rfl _ _ rfl _ _ (fun w hSw => hSw.2) hu rfl hi7) (by assumption) ?_
      try simp only [Act.put, List.setIfInBounds_toArray, List.set_cons_zero, List.set_cons_succ]
      refine wpAnyH_ready (rs := [15]) (by kernel_rfl) (by simp) ?_
      refine AllReadyH.cons rfl (fun K hK => ?_) AllReadyH.nil
      go_simp
      go_at_call 12
      (with_reducible refine (hMI.out _).mono ?_)
      rintro e w2 ⟨rfl, hb2⟩
      have hBEL : Below w1.heap.size w1 w2 := below_step (a := w1) (by repeat (first | (with_reducible exact HBC.out) | (with_reducible refine belowDrew ?_) | (with_reducible refine below_al ?_ _))) hb2
      have HBC := Lib.hid hBEL
      clear hb2 hBEL
      refine hK.out _ _ (by with_reducible exact ⟨range_below HBC.out hl6 r6, range_below HBC.out hl7 r7⟩) (fun hHeld => ?_)
      clear hK K
      try simp only [Act.put, List.setIfInBounds_toArray, List.set_cons_zero, List.set_cons_succ]
      refine wpAnyH_ready (rs := [18]) (by kernel_rfl) (by simp) ?_
      refine AllReadyH.cons rfl (fun K hK => ?_) AllReadyH.nil
      go_simp
      go_at_call 13
      (with_reducible refine (hRI.out _).mono ?_)
      rintro e w2 ⟨rfl, hb2⟩
      have hBEL : Below w1.heap.size w1 w2 := below_step (a := w1) (by repeat (first | (with_reducible exact HBC.out) | (with_reducible refine belowDrew ?_) | (with_reducible refine below_al ?_ _))) hb2
      have HBC := Lib.hid hBEL
      clear hb2 hBEL
      refine hK.out _ _ (by with_reducible exact ⟨range_below HBC.out hl6 r6, range_below HBC.out hl7 r7⟩) (fun hHeld => ?_)
      clear hK K
      try simp only [Act.put, List.setIfInBounds_toArray, List.set_cons_zero, List.set_cons_succ]
      refine wpAnyH_take (i := 19) (oi := _) (v := ?_) rfl (by kernel_rfl) (by kernel_rfl) (by kernel_rfl) (fun _ _ _ h => h) (Or.inl ⟨by rfl, ?_⟩) (by assumption) ?_
      rotate_left
      · intro w hSw
        (try dsimp only at hSw)
        go_simp
        all_goals (with_reducible rfl)
      try simp only [Act.put, List.setIfInBounds_toArray, List.set_cons_zero, List.set_cons_succ]
      refine wpAnyH_take (i := 20) (oi := _) (v := ?_) rfl (by kernel_rfl) (by kernel_rfl) (by kernel_rfl) (fun _ _ _ h => h) (Or.inl ⟨by rfl, ?_⟩) (by assumption) ?_
      rotate_left
      · intro w hSw
        (try dsimp only at hSw)
        go_simp
        all_goals (with_reducible rfl)
      try simp only [Act.put, List.setIfInBounds_toArray, List.set_cons_zero, List.set_cons_succ]
      refine wpAnyH_take (i := 21) (oi := _) (v := ?_) rfl (by kernel_rfl) (by kernel_rfl) (by kernel_rfl) (fun _ _ _ h => h) (Or.inl ⟨by rfl, ?_⟩) (by assumption) ?_
      rotate_left
      · intro w hSw
        (try dsimp only at hSw)
        go_simp
        all_goals (with_reducible rfl)
      try simp only [Act.put, List.setIfInBounds_toArray, List.set_cons_zero, List.set_cons_succ]
      refine wpAnyH_take (i := 22) (oi := _) (v := ?_) rfl (by kernel_rfl) (by kernel_rfl) (by kernel_rfl) (fun _ _ _ h => h) (Or.inl ⟨by rfl, ?_⟩) (by assumption) ?_
      rotate_left
      · intro w hSw
        (try dsimp only at hSw)
        go_simp
        all_goals (with_reducible rfl)
      try simp only [Act.put, List.setIfInBounds_toArray, List.set_cons_zero, List.set_cons_succ]
      refine wpAnyH_take (i := 24) (oi := _) (v := ?_) rfl (by kernel_rfl) (by kernel_rfl) (by kernel_rfl) (fun _ _ _ h => h) (Or.inl ⟨by rfl, ?_⟩) (by assumption) ?_
      rotate_left
      · intro w hSw
        (try dsimp only at hSw)
        go_simp
        all_goals (with_reducible rfl)
      try simp only [Act.put, List.setIfInBounds_toArray, List.set_cons_zero, List.set_cons_succ]
      refine wpAnyH_ready (rs := [23]) (by kernel_rfl) (by simp) ?_
      refine AllReadyH.cons rfl (fun K hK => ?_) AllReadyH.nil
      go_simp
      go_at_call 14
      (with_reducible refine (hML.out _ ?_).mono ?_)
      · repeat (first | (with_reducible exact HBC.out) | (with_reducible refine belowDrew ?_) | (with_reducible refine below_al ?_ _))
      rintro e w2 ⟨rfl, hb2⟩
      have hBEL : Below w1.heap.size w1 w2 := below_step (a := w1) (by repeat (first | (with_reducible exact HBC.out) | (with_reducible refine belowDrew ?_) | (with_reducible refine below_al ?_ _))) hb2
      have HBC := Lib.hid hBEL
      clear hb2 hBEL
      refine hK.out _ _ (by with_reducible exact ⟨range_below HBC.out hl6 r6, range_below HBC.out hl7 r7⟩) (fun hHeld => ?_)
      clear hK K
      try simp only [Act.put, List.setIfInBounds_toArray, List.set_cons_zero, List.set_cons_succ]
      refine wpAnyH_ready (rs := [25]) (by kernel_rfl) (by simp) ?_
      refine AllReadyH.cons rfl (fun K hK => ?_) AllReadyH.nil
      go_simp
      go_at_call 15
      (with_reducible refine (hRL.out _ ?_).mono ?_)
      · repeat (first | (with_reducible exact HBC.out) | (with_reducible refine belowDrew ?_) | (with_reducible refine below_al ?_ _))
      rintro e w2 ⟨rfl, hb2⟩
      have hBEL : Below w1.heap.size w1 w2 := below_step (a := w1) (by repeat (first | (with_reducible exact HBC.out) | (with_reducible refine belowDrew ?_) | (with_reducible refine below_al ?_ _))) hb2
      have HBC := Lib.hid hBEL
      clear hb2 hBEL
      refine hK.out _ _ (by with_reducible exact ⟨range_below HBC.out hl6 r6, range_below HBC.out hl7 r7⟩) (fun hHeld => ?_)
      clear hK K
      try simp only [Act.put, List.setIfInBounds_toArray, List.set_cons_zero, List.set_cons_succ]
      refine wpAnyH_take (i := 26) (oi := _) (v := ?_) rfl (by kernel_rfl) (by kernel_rfl) (by kernel_rfl) (fun _ _ _ h => h) (Or.inl ⟨by rfl, ?_⟩) (by assumption) ?_
      rotate_left
      · intro w hSw
        (try dsimp only at hSw)
        go_simp
        all_goals (with_reducible rfl)
      try simp only [Act.put, List.setIfInBounds_toArray, List.set_cons_zero, List.set_cons_succ]
      refine wpAnyH_take (i := 27) (oi := _) (v := ?_) rfl (by kernel_rfl) (by kernel_rfl) (by kernel_rfl) (fun _ _ _ h => h) (Or.inl ⟨by rfl, ?_⟩) (by assumption) ?_
      rotate_left
      · intro w hSw
        (try dsimp only at hSw)
        go_simp
        all_goals (with_reducible rfl)
      try simp only [Act.put, List.setIfInBounds_toArray, List.set_cons_zero, List.set_cons_succ]
      refine wpAnyH_take (i := 28) (oi := _) (v := ?_) rfl (by kernel_rfl) (by kernel_rfl) (by kernel_rfl) (fun _ _ _ h => h) (Or.inl ⟨by rfl, ?_⟩) (by assumption) ?_
      rotate_left
      · intro w hSw
        (try dsimp only at hSw)
        go_simp
        all_goals (with_reducible rfl)
      try simp only [Act.put, List.setIfInBounds_toArray, List.set_cons_zero, List.set_cons_succ]
      refine wpAnyH_ready (rs := [29]) (by kernel_rfl) (by simp) ?_
      refine AllReadyH.cons rfl (fun K hK => ?_) AllReadyH.nil
      go_simp
      go_at_call 8
      (with_reducible refine (known_any _).mono ?_)
      rintro e w2 ⟨rfl, hb2⟩
      have hBEL : Below w1.heap.size w1 w2 := below_step (a := w1) (by repeat (first | (with_reducible exact HBC.out) | (with_reducible refine belowDrew ?_) | (with_reducible refine below_al ?_ _))) hb2
      have HBC := Lib.hid hBEL
      clear hb2 hBEL
      refine hK.out _ _ (by with_reducible exact ⟨range_below HBC.out hl6 r6, range_below HBC.out hl7 r7⟩) (fun hHeld => ?_)
      clear hK K
      try simp only [Act.put, List.setIfInBounds_toArray, List.set_cons_zero, List.set_cons_succ]
      refine wpAnyH_take (i := 30) (oi := ⟨some 53, _, _, _, _, _⟩) (v := ?_) rfl (by kernel_rfl) (by kernel_rfl) (by kernel_rfl) (fun _ _ _ h => h) (Or.inl ⟨by rfl, ?_⟩) (by assumption) ?_
      rotate_left
      · intro w hSw
        (try dsimp only at hSw)
        go_simp
        all_goals (with_reducible rfl)
      try simp only [Act.put, List.setIfInBounds_toArray, List.set_cons_zero, List.set_cons_succ]
      refine wpAnyH_take (i := 31) (oi := ⟨some 10, _, _, _, _, _⟩) (v := ?_) rfl (by kernel_rfl) (by kernel_rfl) (by kernel_rfl) (fun _ _ _ h => h) (Or.inl ⟨by rfl, ?_⟩) (by assumption) ?_
      rotate_left
      · intro w hSw
        (try dsimp only at hSw)
        go_simp
        all_goals (with_reducible rfl)
      try simp only [Act.put, List.setIfInBounds_toArray, List.set_cons_zero, List.set_cons_succ]
      refine wpAnyH_done (by kernel_rfl) ?_ _
      refine NoPanic.normal ?_
      go_wp2_with fail
      go_ret
      exact ⟨rfl, HB1.out.trans (HBC.out.mono HB1.out.size)⟩
end Go.Proofs.Ytlijjacnfdnhkaa
