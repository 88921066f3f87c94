/- SlabApart: the walk. -/
import Derived.Test.YtnihkjhejjeepaaSlbSs
import Derived.Test.YtnihkjhejjeepaaSlbSe
import Derived.Test.YtnihkjhejjeepaaHeldL
import Derived.Test.YtnihkjhejjeepaaMkEn2
namespace Go.Proofs.Ytnihkjhejjeepaa
open Go.RowKit
set_option linter.unusedVariables false
set_option linter.unusedSimpArgs false
open ShaW Sha

/-- a store of one entry: what turns is none of its blocks -/
theorem SlAt.one_apart {w w' : World} {S : Nat → Prop} {B C most X : Nat} {r : SRow} {sv : Value} {size : Nat} {free : Int} (h : SlAt w B C most [r] sv size free) (he : EntAt w X r.s.e r.rv r.pv) (hBX : B ≤ X) (ho : Only S w w') (h1 : ∀ g, r.rv.ownBlock = some g → ¬ S g) (h2 : ∀ g, r.pv.ownBlock = some g → ¬ S g) (hS : ∀ g, S g → ∃ t cs, Blk w g t cs ∧ t ∉ [71, 75]) : SlAt w' B C most [r] sv size free ∧ EntAt w' X r.s.e r.rv r.pv := by
  have h1 : EntAt w' X r.s.e r.rv r.pv := he.only ho h1 h2
  refine ⟨⟨h.ge, h.blk.only ho (fun hs => ?_), owns_only h.row ho (fun g hg hs => ?_), fun q hq => ?_⟩, h1⟩
  · obtain ⟨t, cs, hb, ht⟩ := hS _ hs
    exact Blk.ne_ hb h.blk (fun e => ht (by rw [e]; simp)) rfl
  · obtain ⟨t, cs, hb, ht⟩ := hS _ hs
    exact own_blk_ne h.row hb (fun e => ht (by rw [← e]; simp)) hg
  · rw [List.mem_singleton.1 hq]
    exact h1.less hBX
theorem row_head {w : World} {base n : Nat} {e : TypeId} {v : Value} {x : Value} {xs : List Value} (h : w.ownsRow base e 1 v (n + 1) (x :: xs)) : ∃ g c, v = .slice (some ⟨g, 0, none⟩) (n + 1) c ∧ w.cell? ⟨g, 0, none⟩ = some x ∧ (∀ j, w.frozen? ⟨g, j, none⟩ = w.frozen? ⟨g, j, none⟩) ∧ base ≤ g ∧ g < w.heap.size ∧ ∃ cs, Blk w g e cs := by
  rcases h.2 with ⟨_, h0⟩ | ⟨g, cap, cur, hv, hb, hg, _⟩
  · cases h0
  · have hc := h
    rw [hv] at hc
    exact ⟨g, cap, hv, (hc.cellAt 0 (by omega)).trans rfl, fun _ => rfl, hb, Blk.lt hg, _, hg⟩
theorem lit_own1 (w : World) (e : TypeId) (x : Value) (_ : x.oneCell' = true) : (w.alloc (.cells #[x] e)).ownsRow w.heap.size e 1 (.slice (some ⟨w.heap.size, 0, none⟩) 1 1) 1 [x] :=
  ⟨rfl, .inr ⟨w.heap.size, 1, #[x], rfl, Nat.le_refl _, heap_alloc_new _ _, Nat.le_refl _, by unfold maxLen; omega, rfl, rfl⟩⟩
theorem lit_own0 (w : World) (e : TypeId) : (w.alloc (.cells #[] e)).ownsRow w.heap.size e 1 (.slice (some ⟨w.heap.size, 0, none⟩) 0 0) 0 [] := lit_ownsE w e
set_option maxRecDepth 100000 in
set_option maxHeartbeats 16000000 in
attribute [local go_sem ↓] wp_store_ent wp_load_ent in
theorem slabApart_any (w : World) (A : Option Addr) (n c : Nat) (f : Nat → Int) (h : IntsAt w w.heap.size A n c f) (by_ : Int) (hby : 0 ≤ by_ ∧ by_ ≤ 255) :
    Calls Try.prog 4 #[.slice A n c, .int .u8 by_] w fun e w' => e = .returned (.bool true) ∧ Below w.heap.size w w' := by
  obtain ⟨i0, hi0, hz0, hz1, hz2⟩ := info_parts u8_info
  obtain ⟨i1, hi1, hy0, hy1, hy2⟩ := info_parts int_infoE
  have HI0 := Lib.hid hi0
  have HZ0 := Lib.hid hz0
  have HI1 := Lib.hid hi1
  have HY0 := Lib.hid hy0
  clear hi0 hz0 hi1 hy0
  have hnc : n ≤ 9223372036854775807 := Nat.le_trans h.1 h.2.1
  have HI := Lib.hid h
  clear h
  by_cases hbig : 160 < n
  · have hb : decide (160 < (n : Int)) = true := by simp; omega
    go_enter Try.func4, Try.ntmps4
    go_wp2_with fail
    refine (long_any w A n c _ _ rfl hnc true hb).mono ?_
    rintro e w1 ⟨rfl, rfl⟩
    go_wp2_with fail
    refine (known_any _).mono ?_
    rintro e w1 ⟨rfl, hb1⟩
    have HB := Lib.hid (((Below.refl w.heap.size w).alloc (Nat.le_refl _) _).trans (hb1.mono (by simp)))
    clear hb1
    go_wp2_with fail
    go_ret
    exact ⟨rfl, HB.out⟩
  have hb : decide (160 < (n : Int)) = false := by simp; omega
  have hn : n ≤ 160 := by omega
  clear hbig
  go_enter Try.func4, Try.ntmps4
  go_wp2_with fail
  refine (long_any w A n c _ _ rfl hnc false hb).mono ?_
  rintro e w1 ⟨rfl, rfl⟩
  go_wp2_with fail
  generalize hwa : World.alloc w _ = wa
  have hb0 : Below w.heap.size w wa := by rw [← hwa]; exact (Below.refl _ _).alloc (Nat.le_refl _) _
  obtain ⟨B, hB⟩ : ∃ B, wa.heap.size = B := ⟨_, rfl⟩
  have hI : IntsAt wa B A n c f := by rw [← hB]; exact (HI.out.below hb0).more hb0.size
  have hwB : w.heap.size ≤ B := by rw [← hB]; exact hb0.size
  have HB0 := Lib.hid hb0
  have HIA := Lib.hid hI
  clear hwa hb0 hb HI hI
  refine (snew_any wa B (by omega) 5 ⟨by omega, by omega⟩).mono ?_
  rintro e w2 ⟨rfl, hb2, hs2, hr2⟩
  rw [hB] at hr2 hb2 ⊢
  have HB2 := Lib.hid hb2
  have HR2 := Lib.hid hr2
  obtain ⟨D, hD⟩ : ∃ D, w2.heap.size = D := ⟨_, rfl⟩
  have hBD : B < D := by omega
  clear hb2 hr2 hs2
  go_wp2_with fail
  refine (from_any w2 B n c A f (HIA.out.below HB2.out) (by omega)).mono ?_
  rintro e w3 ⟨rfl, hb3, hs3, hn3⟩
  rw [hD] at hn3 hs3 ⊢
  have hDz : D < w3.heap.size := by omega
  have HR3 := Lib.hid (HR2.out.below hb3)
  have HB3 := Lib.hid (HB2.out.trans (hb3.mono (by omega)))
  have HN3 := Lib.hid hn3
  clear hb3 hn3 hs3 hD
  go_wp2_with fail
  refine (mkEntry_any w3 B D n 0 HN3.out (by omega) (by omega)).mono ?_
  rintro e w4 ⟨en, rv, pv, N', rfl, ho4, hn4, _, _, he4, hm4⟩
  obtain ⟨csn, hkn⟩ := HN3.out.blk
  have HR4 := Lib.hid (HR3.out.apart ho4 (fun g hg => ⟨52, _, hg.symm ▸ hkn, by decide⟩))
  have HB4 := Lib.hid (Only.below_trans HB3.out ho4 (by omega) (fun k hk => by omega))
  have HE4 := Lib.hid he4
  have hz4 := ho4.size
  obtain ⟨hm1, hm2⟩ : en.rn ≤ 8 ∧ en.peers.length ≤ 2 := ⟨hm4.rn, hm4.pn⟩
  have qs := box_sto w4 en rv pv he4.one
  clear ho4 hn4 he4 hm4
  go_upto_region 7 with (fail)
  generalize hwb : storeMid _ _ _ = w6
  have hbx := box_end hwb
  have HB6 := Lib.hid (HB4.out.trans (hbx.1.mono (by omega)))
  have HR6 := Lib.hid (HR4.out.below hbx.1)
  have HK6 := Lib.hid hbx.2
  have HE6 := Lib.hid (HE4.out.below hbx.1)
  have hz6 := hbx.1.size
  clear qs hwb hbx
  obtain ⟨rn, hrn⟩ : ∃ k, en.rn = k := ⟨_, rfl⟩
  obtain ⟨pn, hpn⟩ : ∃ k, en.peers.length = k := ⟨_, rfl⟩
  obtain ⟨raw, hraw⟩ : ∃ k, en.raw = k := ⟨_, rfl⟩
  obtain ⟨ps, hps⟩ : ∃ k, en.peers = k := ⟨_, rfl⟩
  have hea := HE6.out
  obtain ⟨A1, c1, hrv⟩ := own_form hea.raw
  obtain ⟨A2, c2, hpv⟩ := own_form hea.peers
  rw [hrn] at hrv hm1
  rw [hpn] at hpv hm2
  have x32 : w6.cell? ⟨w4.heap.size, 32, none⟩ = some (.slice A1 rn c1) := by rw [← hrv]; exact ent_cell HK6.out 0
  have x40 : w6.cell? ⟨w4.heap.size, 40, none⟩ = some (.slice A2 pn c2) := by rw [← hpv]; exact ent_cell HK6.out 8
  have hxl1 : (⟨w4.heap.size, 32, none⟩ : Addr).block < w6.heap.size := HK6.out.lt
  have hxl2 : (⟨w4.heap.size, 40, none⟩ : Addr).block < w6.heap.size := HK6.out.lt
  have HRA : Hid (∀ W, Below w6.heap.size w6 W → Reads W w6.heap.size 1 A1 rn (bytesOf rn raw)) := fun W hW => by
    have h1 := hea.raw
    rw [hrv, hrn, hraw] at h1
    exact (Reads.of_own h1).below hW
  have HPA : Hid (∀ W, Below w6.heap.size w6 W → Reads W w6.heap.size 1 A2 pn (intsV ps)) := fun W hW => by
    have h1 := hea.peers
    rw [hpv, hpn, hps] at h1
    exact (Reads.of_own h1).below hW
  have HBS := Lib.hid (Below.refl w6.heap.size w6)
  have HKB := HK6
  rw [hrv, hpv] at HKB
  skip
  clear hea
  go_cut [24] (fun _ wx => ∃ vU vJ, Only (fun k => k = w4.heap.size) w6 wx ∧ Blk wx w4.heap.size 38 (entCells en vU vJ).toArray ∧ wx.ownsRow w6.heap.size 5 1 vU (1 + rn) ([.int .u8 1] ++ bytesOf rn raw) ∧ wx.ownsRow w6.heap.size 3 1 vJ (1 + pn) ([.int .i64 1] ++ intsV ps))
  case first =>
    refine wp_region_noPanic ?_
    refine wp_region_heldL_drew (S := fun W => W.cell? ⟨w4.heap.size, 32, none⟩ = some (.slice A1 rn c1) ∧ W.cell? ⟨w4.heap.size, 40, none⟩ = some (.slice A2 pn c2)) (B := [9, 11]) (by kernel_rfl) ⟨x32, x40⟩ (fun hHeld => ?_)
    refine wpAnyL_pure (i := 1) (oi := ⟨some 25, _, _, _, _, _⟩) (v := ?_) rfl (by kernel_rfl) (by kernel_rfl) (by kernel_rfl) (fun _ _ _ h => h) (by kernel_rfl) (Or.inl ⟨by kernel_rfl, ?_⟩) (fun _ => hHeld) ?_
    rotate_left
    · intro w hSw
      go_simp
      all_goals (with_reducible rfl)
    conv => arg 9; simp only [Act.put, List.setIfInBounds_toArray, List.set_cons_zero, List.set_cons_succ]
    refine wpAnyL_take (i := 2) (oi := ⟨some 26, _, _, _, _, _⟩) (v := ?_) rfl (by kernel_rfl) (by kernel_rfl) (by kernel_rfl) (fun _ _ _ h => h) (by kernel_rfl) (by kernel_rfl) (by kernel_rfl) (Or.inl ⟨by kernel_rfl, ?_⟩) (fun _ => hHeld) ?_
    rotate_left
    · intro w hSw
      obtain ⟨s1, s2⟩ := hSw
      go_simp
      all_goals (with_reducible rfl)
    conv => arg 9; simp only [Act.put, List.setIfInBounds_toArray, List.set_cons_zero, List.set_cons_succ]
    refine wpAnyL_pure (i := 5) (oi := ⟨some 29, _, _, _, _, _⟩) (v := ?_) rfl (by kernel_rfl) (by kernel_rfl) (by kernel_rfl) (fun _ _ _ h => h) (by kernel_rfl) (Or.inl ⟨by kernel_rfl, ?_⟩) (fun _ => hHeld) ?_
    rotate_left
    · intro w hSw
      go_simp
      all_goals (with_reducible rfl)
    conv => arg 9; simp only [Act.put, List.setIfInBounds_toArray, List.set_cons_zero, List.set_cons_succ]
    refine wpAnyL_take (i := 6) (oi := ⟨some 30, _, _, _, _, _⟩) (v := ?_) rfl (by kernel_rfl) (by kernel_rfl) (by kernel_rfl) (fun _ _ _ h => h) (by kernel_rfl) (by kernel_rfl) (by kernel_rfl) (Or.inl ⟨by kernel_rfl, ?_⟩) (fun _ => hHeld) ?_
    rotate_left
    · intro w hSw
      obtain ⟨s1, s2⟩ := hSw
      go_simp
      all_goals (with_reducible rfl)
    conv => arg 9; simp only [Act.put, List.setIfInBounds_toArray, List.set_cons_zero, List.set_cons_succ]
    refine wpAnyL_ready (rs := [0, 4]) (by kernel_rfl) (by simp) ?_
    refine AllReadyL.cons (o := ⟨some 24, _, _, _, _, _⟩) rfl (fun K hK => ?_) (AllReadyL.cons (o := ⟨some 28, _, _, _, _, _⟩) rfl (fun K hK => ?_) AllReadyL.nil)
    · go_simp
      generalize hW : World.drew (World.alloc _ _) = y1
      have hb1 : Below w6.heap.size w6 y1 := by rw [← hW]; exact belowDrewR ((Below.refl _ _).alloc (Nat.le_refl _) _)
      have ho1 : y1.ownsRow w6.heap.size 5 1 (.slice (some ⟨w6.heap.size, 0, none⟩) 1 1) 1 [.int .u8 1] := by rw [← hW]; exact (owns_base2 (lit_own1 _ _ _ rfl) HBS.out.size).drew
      have HU1 := Lib.hid ho1
      have HB1 := Lib.hid (HBS.out.trans (hb1.mono HBS.out.size))
      clear hW hb1 ho1 hHeld
      have hHeld := And.intro ((HB1.out.cell hxl1).trans x32) ((HB1.out.cell hxl2).trans x40)
      refine hK.out _ _ (fun _ => hHeld) (fun _ => ?_)
      clear hK K
      conv => arg 9; simp only [Act.put, List.setIfInBounds_toArray, List.set_cons_zero, List.set_cons_succ]
      refine wpAnyL_ready (rs := [3, 4]) (by kernel_rfl) (by simp) ?_
      refine AllReadyL.cons (o := ⟨some 27, _, _, _, _, _⟩) rfl (fun K hK => ?_) (AllReadyL.cons (o := ⟨some 28, _, _, _, _, _⟩) rfl (fun K hK => ?_) AllReadyL.nil)
      · refine step_append_any _ (by rfl) (.tmp 24) (.tmp 26) _ (by rfl) w6.heap.size 5 i0 _ 1 1 Try.underlying35 HI0.out HZ0.out hz1 hz2 rfl (by omega) (.slice (some ⟨w6.heap.size, 0, none⟩) 1 1) 1 [.int .u8 1] (by rfl) HU1.out _ A1 rn c1 (bytesOf rn raw) (by rfl) (HRA.out _ HB1.out) (bytesOf_one _ _) (by unfold maxLen; omega) (by omega) HB1.out.size ?_
        intro v2 y2 ho2 hg2 hat2
        skip
        have hq2 : Below w6.heap.size w6 y2 := HB1.out.grown hg2 HB1.out.size (fun g e => (HU1.out.lt g e).1)
        have HU2 := Lib.hid ho2
        have HB2 := Lib.hid hq2
        clear ho2 hg2 hat2 hq2 hHeld
        have hHeld := And.intro ((HB2.out.cell hxl1).trans x32) ((HB2.out.cell hxl2).trans x40)
        refine hK.out _ _ (fun _ => hHeld) (fun _ => ?_)
        clear hK K
        conv => arg 9; simp only [Act.put, List.setIfInBounds_toArray, List.set_cons_zero, List.set_cons_succ]
        refine wpAnyL_pure (i := 8) (oi := ⟨some 32, _, _, _, _, _⟩) (v := ?_) rfl (by kernel_rfl) (by kernel_rfl) (by kernel_rfl) (fun _ _ _ h => h) (by kernel_rfl) (Or.inl ⟨by kernel_rfl, ?_⟩) (fun _ => hHeld) ?_
        rotate_left
        · intro w hSw
          go_simp
          all_goals (with_reducible rfl)
        conv => arg 9; simp only [Act.put, List.setIfInBounds_toArray, List.set_cons_zero, List.set_cons_succ]
        refine wpAnyL_ready (rs := [4]) (by kernel_rfl) (by simp) ?_
        refine AllReadyL.cons (o := ⟨some 28, _, _, _, _, _⟩) rfl (fun K hK => ?_) AllReadyL.nil
        go_simp
        generalize hW : World.alloc _ _ = y3
        have hb3 : Below y2.heap.size y2 y3 := by rw [← hW]; exact ((Below.refl _ _).alloc (Nat.le_refl _) _)
        have ho3 : y3.ownsRow w6.heap.size 3 1 (.slice (some ⟨y2.heap.size, 0, none⟩) 1 1) 1 [.int .i64 1] := by rw [← hW]; exact (owns_base2 (lit_own1 _ _ _ rfl) HB2.out.size)
        have HJ3 := Lib.hid ho3
        have HU3 := Lib.hid (owns_below HU2.out hb3)
        have HB3 := Lib.hid (HB2.out.trans (hb3.mono HB2.out.size))
        clear hW hb3 ho3 hHeld
        have hHeld := And.intro ((HB3.out.cell hxl1).trans x32) ((HB3.out.cell hxl2).trans x40)
        refine hK.out _ _ (fun _ => hHeld) (fun _ => ?_)
        clear hK K
        conv => arg 9; simp only [Act.put, List.setIfInBounds_toArray, List.set_cons_zero, List.set_cons_succ]
        refine wpAnyL_ready (rs := [7]) (by kernel_rfl) (by simp) ?_
        refine AllReadyL.cons (o := ⟨some 31, _, _, _, _, _⟩) rfl (fun K hK => ?_) AllReadyL.nil
        refine step_append_any _ (by rfl) (.tmp 28) (.tmp 30) _ (by rfl) w6.heap.size 3 i1 _ 1 8 Try.underlying22 HI1.out HY0.out hy1 hy2 rfl (by omega) (.slice (some ⟨y2.heap.size, 0, none⟩) 1 1) 1 [.int .i64 1] (by rfl) HJ3.out _ A2 pn c2 (intsV ps) (by rfl) (HPA.out _ HB3.out) (intsV_one _) (by unfold maxLen; omega) (by omega) HB3.out.size ?_
        intro v4 y4 ho4 hg4 hat4
        skip
        have hq4 : Below w6.heap.size w6 y4 := HB3.out.grown hg4 HB3.out.size (fun g e => (HJ3.out.lt g e).1)
        have HJ4 := Lib.hid ho4
        have HU4 := Lib.hid (owns_only HU3.out (Only.of_grown hg4) (fun g h1 h2 => owns_ne2 HU3.out HJ3.out (by decide) h1 h2))
        have HB4 := Lib.hid hq4
        clear ho4 hg4 hat4 hq4 hHeld
        have hHeld := And.intro ((HB4.out.cell hxl1).trans x32) ((HB4.out.cell hxl2).trans x40)
        refine hK.out _ _ (fun _ => hHeld) (fun _ => ?_)
        clear hK K
        conv => arg 9; simp only [Act.put, List.setIfInBounds_toArray, List.set_cons_zero, List.set_cons_succ]
        have hUU := HU4.out
        have hJJ := HJ4.out
        obtain ⟨AU, cU, eU⟩ := own_form hUU
        obtain ⟨AJ, cJ, eJ⟩ := own_form hJJ
        subst eU
        subst eJ
        have HUU := Lib.hid hUU
        have HJJ := Lib.hid hJJ
        have hkb := HKB.out.below HB4.out HKB.out.lt
        have f32 := hkb.frozen 32
        have f40 := hkb.frozen 40
        have q32 : y4.cell? ⟨w4.heap.size, 32, none⟩ = some (.slice A1 rn c1) := ent_cell hkb 0
        have q40 : y4.cell? ⟨w4.heap.size, 40, none⟩ = some (.slice A2 pn c2) := ent_cell hkb 8
        have HKL := Lib.hid hkb
        clear hkb hUU hJJ
        refine wpAnyL_ready (rs := [9]) (by kernel_rfl) (by simp) ?_
        refine AllReadyL.cons (o := ⟨none, _, _, _, _, _⟩) rfl (fun K hK => ?_) AllReadyL.nil
        go_simp
        refine hK.out _ _ (fun hn => absurd hn (noneUp_not (by kernel_rfl))) (fun _ => ?_)
        clear hK K
        conv => arg 9; simp only [Act.put, List.setIfInBounds_toArray, List.set_cons_zero, List.set_cons_succ]
        refine wpAnyL_pure (i := 10) (oi := ⟨some 33, _, _, _, _, _⟩) (v := ?_) rfl (by kernel_rfl) (by kernel_rfl) (by kernel_rfl) (fun _ _ _ h => h) (by kernel_rfl) (Or.inl ⟨by kernel_rfl, ?_⟩) (fun hn => absurd hn (noneUp_not (by kernel_rfl))) ?_
        rotate_left
        · intro w hSw
          go_simp
          all_goals (with_reducible rfl)
        conv => arg 9; simp only [Act.put, List.setIfInBounds_toArray, List.set_cons_zero, List.set_cons_succ]
        refine wpAnyL_ready (rs := [11]) (by kernel_rfl) (by simp) ?_
        refine AllReadyL.cons (o := ⟨none, _, _, _, _, _⟩) rfl (fun K hK => ?_) AllReadyL.nil
        go_simp
        refine hK.out _ _ (fun hn => absurd hn (noneUp_not (by kernel_rfl))) (fun _ => ?_)
        clear hK K
        conv => arg 9; simp only [Act.put, List.setIfInBounds_toArray, List.set_cons_zero, List.set_cons_succ]
        refine wpAnyL_done (by kernel_rfl) ?_ _
        refine NoPanic.normal ?_
        generalize hwz : World.setCell (World.setCell _ _ _) _ _ = wz
        clear f32 f40 q32 q40 hHeld
        have hkz : Blk wz w4.heap.size 38 (entCells en (.slice AU (1 + rn) cU) (.slice AJ (1 + pn) cJ)).toArray := by
          rw [← hwz, ← entCells_set en (.slice A1 rn c1) (.slice A2 pn c2)]
          exact (HKL.out.set_ 32 _).set_ 40 _
        have hoz : Only (fun k => k = w4.heap.size) y4 wz := by
          rw [← hwz]
          exact ((Only.refl (fun k => k = w4.heap.size) _).setCell_ (p := ⟨w4.heap.size, 32, none⟩) (.inl rfl) _).setCell_ (p := ⟨w4.heap.size, 40, none⟩) (.inl rfl) _
        have hUz := owns_only HUU.out hoz (fun k h1 h2 => own_blk_ne HUU.out HKL.out (by decide) (h2 ▸ h1))
        have hJz := owns_only HJJ.out hoz (fun k h1 h2 => own_blk_ne HJJ.out HKL.out (by decide) (h2 ▸ h1))
        have hO := (Only.of_below (fun k => k = w4.heap.size) HB4.out).trans hoz (fun k hk => .inl hk)
        go_wp2_with fail
        go_meet
        exact ⟨_, _, hO, hkz, hUz, hJz⟩
      · go_simp
        generalize hW : World.alloc _ _ = y5
        have hb5 : Below y1.heap.size y1 y5 := by rw [← hW]; exact ((Below.refl _ _).alloc (Nat.le_refl _) _)
        have ho5 : y5.ownsRow w6.heap.size 3 1 (.slice (some ⟨y1.heap.size, 0, none⟩) 1 1) 1 [.int .i64 1] := by rw [← hW]; exact (owns_base2 (lit_own1 _ _ _ rfl) HB1.out.size)
        have HJ5 := Lib.hid ho5
        have HU5 := Lib.hid (owns_below HU1.out hb5)
        have HB5 := Lib.hid (HB1.out.trans (hb5.mono HB1.out.size))
        clear hW hb5 ho5 hHeld
        have hHeld := And.intro ((HB5.out.cell hxl1).trans x32) ((HB5.out.cell hxl2).trans x40)
        refine hK.out _ _ (fun _ => hHeld) (fun _ => ?_)
        clear hK K
        conv => arg 9; simp only [Act.put, List.setIfInBounds_toArray, List.set_cons_zero, List.set_cons_succ]
        refine wpAnyL_ready (rs := [3]) (by kernel_rfl) (by simp) ?_
        refine AllReadyL.cons (o := ⟨some 27, _, _, _, _, _⟩) rfl (fun K hK => ?_) AllReadyL.nil
        refine step_append_any _ (by rfl) (.tmp 24) (.tmp 26) _ (by rfl) w6.heap.size 5 i0 _ 1 1 Try.underlying35 HI0.out HZ0.out hz1 hz2 rfl (by omega) (.slice (some ⟨w6.heap.size, 0, none⟩) 1 1) 1 [.int .u8 1] (by rfl) HU5.out _ A1 rn c1 (bytesOf rn raw) (by rfl) (HRA.out _ HB5.out) (bytesOf_one _ _) (by unfold maxLen; omega) (by omega) HB5.out.size ?_
        intro v6 y6 ho6 hg6 hat6
        skip
        have hq6 : Below w6.heap.size w6 y6 := HB5.out.grown hg6 HB5.out.size (fun g e => (HU5.out.lt g e).1)
        have HU6 := Lib.hid ho6
        have HJ6 := Lib.hid (owns_only HJ5.out (Only.of_grown hg6) (fun g h1 h2 => owns_ne2 HJ5.out HU5.out (by decide) h1 h2))
        have HB6 := Lib.hid hq6
        clear ho6 hg6 hat6 hq6 hHeld
        have hHeld := And.intro ((HB6.out.cell hxl1).trans x32) ((HB6.out.cell hxl2).trans x40)
        refine hK.out _ _ (fun _ => hHeld) (fun _ => ?_)
        clear hK K
        conv => arg 9; simp only [Act.put, List.setIfInBounds_toArray, List.set_cons_zero, List.set_cons_succ]
        refine wpAnyL_pure (i := 8) (oi := ⟨some 32, _, _, _, _, _⟩) (v := ?_) rfl (by kernel_rfl) (by kernel_rfl) (by kernel_rfl) (fun _ _ _ h => h) (by kernel_rfl) (Or.inl ⟨by kernel_rfl, ?_⟩) (fun _ => hHeld) ?_
        rotate_left
        · intro w hSw
          go_simp
          all_goals (with_reducible rfl)
        conv => arg 9; simp only [Act.put, List.setIfInBounds_toArray, List.set_cons_zero, List.set_cons_succ]
        refine wpAnyL_ready (rs := [7]) (by kernel_rfl) (by simp) ?_
        refine AllReadyL.cons (o := ⟨some 31, _, _, _, _, _⟩) rfl (fun K hK => ?_) AllReadyL.nil
        refine step_append_any _ (by rfl) (.tmp 28) (.tmp 30) _ (by rfl) w6.heap.size 3 i1 _ 1 8 Try.underlying22 HI1.out HY0.out hy1 hy2 rfl (by omega) (.slice (some ⟨y1.heap.size, 0, none⟩) 1 1) 1 [.int .i64 1] (by rfl) HJ6.out _ A2 pn c2 (intsV ps) (by rfl) (HPA.out _ HB6.out) (intsV_one _) (by unfold maxLen; omega) (by omega) HB6.out.size ?_
        intro v7 y7 ho7 hg7 hat7
        skip
        have hq7 : Below w6.heap.size w6 y7 := HB6.out.grown hg7 HB6.out.size (fun g e => (HJ6.out.lt g e).1)
        have HJ7 := Lib.hid ho7
        have HU7 := Lib.hid (owns_only HU6.out (Only.of_grown hg7) (fun g h1 h2 => owns_ne2 HU6.out HJ6.out (by decide) h1 h2))
        have HB7 := Lib.hid hq7
        clear ho7 hg7 hat7 hq7 hHeld
        have hHeld := And.intro ((HB7.out.cell hxl1).trans x32) ((HB7.out.cell hxl2).trans x40)
        refine hK.out _ _ (fun _ => hHeld) (fun _ => ?_)
        clear hK K
        conv => arg 9; simp only [Act.put, List.setIfInBounds_toArray, List.set_cons_zero, List.set_cons_succ]
        have hUU := HU7.out
        have hJJ := HJ7.out
        obtain ⟨AU, cU, eU⟩ := own_form hUU
        obtain ⟨AJ, cJ, eJ⟩ := own_form hJJ
        subst eU
        subst eJ
        have HUU := Lib.hid hUU
        have HJJ := Lib.hid hJJ
        have hkb := HKB.out.below HB7.out HKB.out.lt
        have f32 := hkb.frozen 32
        have f40 := hkb.frozen 40
        have q32 : y7.cell? ⟨w4.heap.size, 32, none⟩ = some (.slice A1 rn c1) := ent_cell hkb 0
        have q40 : y7.cell? ⟨w4.heap.size, 40, none⟩ = some (.slice A2 pn c2) := ent_cell hkb 8
        have HKL := Lib.hid hkb
        clear hkb hUU hJJ
        refine wpAnyL_ready (rs := [9]) (by kernel_rfl) (by simp) ?_
        refine AllReadyL.cons (o := ⟨none, _, _, _, _, _⟩) rfl (fun K hK => ?_) AllReadyL.nil
        go_simp
        refine hK.out _ _ (fun hn => absurd hn (noneUp_not (by kernel_rfl))) (fun _ => ?_)
        clear hK K
        conv => arg 9; simp only [Act.put, List.setIfInBounds_toArray, List.set_cons_zero, List.set_cons_succ]
        refine wpAnyL_pure (i := 10) (oi := ⟨some 33, _, _, _, _, _⟩) (v := ?_) rfl (by kernel_rfl) (by kernel_rfl) (by kernel_rfl) (fun _ _ _ h => h) (by kernel_rfl) (Or.inl ⟨by kernel_rfl, ?_⟩) (fun hn => absurd hn (noneUp_not (by kernel_rfl))) ?_
        rotate_left
        · intro w hSw
          go_simp
          all_goals (with_reducible rfl)
        conv => arg 9; simp only [Act.put, List.setIfInBounds_toArray, List.set_cons_zero, List.set_cons_succ]
        refine wpAnyL_ready (rs := [11]) (by kernel_rfl) (by simp) ?_
        refine AllReadyL.cons (o := ⟨none, _, _, _, _, _⟩) rfl (fun K hK => ?_) AllReadyL.nil
        go_simp
        refine hK.out _ _ (fun hn => absurd hn (noneUp_not (by kernel_rfl))) (fun _ => ?_)
        clear hK K
        conv => arg 9; simp only [Act.put, List.setIfInBounds_toArray, List.set_cons_zero, List.set_cons_succ]
        refine wpAnyL_done (by kernel_rfl) ?_ _
        refine NoPanic.normal ?_
        generalize hwz : World.setCell (World.setCell _ _ _) _ _ = wz
        clear f32 f40 q32 q40 hHeld
        have hkz : Blk wz w4.heap.size 38 (entCells en (.slice AU (1 + rn) cU) (.slice AJ (1 + pn) cJ)).toArray := by
          rw [← hwz, ← entCells_set en (.slice A1 rn c1) (.slice A2 pn c2)]
          exact (HKL.out.set_ 32 _).set_ 40 _
        have hoz : Only (fun k => k = w4.heap.size) y7 wz := by
          rw [← hwz]
          exact ((Only.refl (fun k => k = w4.heap.size) _).setCell_ (p := ⟨w4.heap.size, 32, none⟩) (.inl rfl) _).setCell_ (p := ⟨w4.heap.size, 40, none⟩) (.inl rfl) _
        have hUz := owns_only HUU.out hoz (fun k h1 h2 => own_blk_ne HUU.out HKL.out (by decide) (h2 ▸ h1))
        have hJz := owns_only HJJ.out hoz (fun k h1 h2 => own_blk_ne HJJ.out HKL.out (by decide) (h2 ▸ h1))
        have hO := (Only.of_below (fun k => k = w4.heap.size) HB7.out).trans hoz (fun k hk => .inl hk)
        go_wp2_with fail
        go_meet
        exact ⟨_, _, hO, hkz, hUz, hJz⟩
    · go_simp
      generalize hW : World.drew (World.alloc _ _) = y8
      have hb8 : Below w6.heap.size w6 y8 := by rw [← hW]; exact belowDrewR ((Below.refl _ _).alloc (Nat.le_refl _) _)
      have ho8 : y8.ownsRow w6.heap.size 3 1 (.slice (some ⟨w6.heap.size, 0, none⟩) 1 1) 1 [.int .i64 1] := by rw [← hW]; exact (owns_base2 (lit_own1 _ _ _ rfl) HBS.out.size).drew
      have HJ8 := Lib.hid ho8
      have HB8 := Lib.hid (HBS.out.trans (hb8.mono HBS.out.size))
      clear hW hb8 ho8 hHeld
      have hHeld := And.intro ((HB8.out.cell hxl1).trans x32) ((HB8.out.cell hxl2).trans x40)
      refine hK.out _ _ (fun _ => hHeld) (fun _ => ?_)
      clear hK K
      conv => arg 9; simp only [Act.put, List.setIfInBounds_toArray, List.set_cons_zero, List.set_cons_succ]
      refine wpAnyL_ready (rs := [0]) (by kernel_rfl) (by simp) ?_
      refine AllReadyL.cons (o := ⟨some 24, _, _, _, _, _⟩) rfl (fun K hK => ?_) AllReadyL.nil
      go_simp
      generalize hW : World.alloc _ _ = y9
      have hb9 : Below y8.heap.size y8 y9 := by rw [← hW]; exact ((Below.refl _ _).alloc (Nat.le_refl _) _)
      have ho9 : y9.ownsRow w6.heap.size 5 1 (.slice (some ⟨y8.heap.size, 0, none⟩) 1 1) 1 [.int .u8 1] := by rw [← hW]; exact (owns_base2 (lit_own1 _ _ _ rfl) HB8.out.size)
      have HU9 := Lib.hid ho9
      have HJ9 := Lib.hid (owns_below HJ8.out hb9)
      have HB9 := Lib.hid (HB8.out.trans (hb9.mono HB8.out.size))
      clear hW hb9 ho9 hHeld
      have hHeld := And.intro ((HB9.out.cell hxl1).trans x32) ((HB9.out.cell hxl2).trans x40)
      refine hK.out _ _ (fun _ => hHeld) (fun _ => ?_)
      clear hK K
      conv => arg 9; simp only [Act.put, List.setIfInBounds_toArray, List.set_cons_zero, List.set_cons_succ]
      refine wpAnyL_ready (rs := [3]) (by kernel_rfl) (by simp) ?_
      refine AllReadyL.cons (o := ⟨some 27, _, _, _, _, _⟩) rfl (fun K hK => ?_) AllReadyL.nil
      refine step_append_any _ (by rfl) (.tmp 24) (.tmp 26) _ (by rfl) w6.heap.size 5 i0 _ 1 1 Try.underlying35 HI0.out HZ0.out hz1 hz2 rfl (by omega) (.slice (some ⟨y8.heap.size, 0, none⟩) 1 1) 1 [.int .u8 1] (by rfl) HU9.out _ A1 rn c1 (bytesOf rn raw) (by rfl) (HRA.out _ HB9.out) (bytesOf_one _ _) (by unfold maxLen; omega) (by omega) HB9.out.size ?_
      intro v10 y10 ho10 hg10 hat10
      skip
      have hq10 : Below w6.heap.size w6 y10 := HB9.out.grown hg10 HB9.out.size (fun g e => (HU9.out.lt g e).1)
      have HU10 := Lib.hid ho10
      have HJ10 := Lib.hid (owns_only HJ9.out (Only.of_grown hg10) (fun g h1 h2 => owns_ne2 HJ9.out HU9.out (by decide) h1 h2))
      have HB10 := Lib.hid hq10
      clear ho10 hg10 hat10 hq10 hHeld
      have hHeld := And.intro ((HB10.out.cell hxl1).trans x32) ((HB10.out.cell hxl2).trans x40)
      refine hK.out _ _ (fun _ => hHeld) (fun _ => ?_)
      clear hK K
      conv => arg 9; simp only [Act.put, List.setIfInBounds_toArray, List.set_cons_zero, List.set_cons_succ]
      refine wpAnyL_pure (i := 8) (oi := ⟨some 32, _, _, _, _, _⟩) (v := ?_) rfl (by kernel_rfl) (by kernel_rfl) (by kernel_rfl) (fun _ _ _ h => h) (by kernel_rfl) (Or.inl ⟨by kernel_rfl, ?_⟩) (fun _ => hHeld) ?_
      rotate_left
      · intro w hSw
        go_simp
        all_goals (with_reducible rfl)
      conv => arg 9; simp only [Act.put, List.setIfInBounds_toArray, List.set_cons_zero, List.set_cons_succ]
      refine wpAnyL_ready (rs := [7]) (by kernel_rfl) (by simp) ?_
      refine AllReadyL.cons (o := ⟨some 31, _, _, _, _, _⟩) rfl (fun K hK => ?_) AllReadyL.nil
      refine step_append_any _ (by rfl) (.tmp 28) (.tmp 30) _ (by rfl) w6.heap.size 3 i1 _ 1 8 Try.underlying22 HI1.out HY0.out hy1 hy2 rfl (by omega) (.slice (some ⟨w6.heap.size, 0, none⟩) 1 1) 1 [.int .i64 1] (by rfl) HJ10.out _ A2 pn c2 (intsV ps) (by rfl) (HPA.out _ HB10.out) (intsV_one _) (by unfold maxLen; omega) (by omega) HB10.out.size ?_
      intro v11 y11 ho11 hg11 hat11
      skip
      have hq11 : Below w6.heap.size w6 y11 := HB10.out.grown hg11 HB10.out.size (fun g e => (HJ10.out.lt g e).1)
      have HJ11 := Lib.hid ho11
      have HU11 := Lib.hid (owns_only HU10.out (Only.of_grown hg11) (fun g h1 h2 => owns_ne2 HU10.out HJ10.out (by decide) h1 h2))
      have HB11 := Lib.hid hq11
      clear ho11 hg11 hat11 hq11 hHeld
      have hHeld := And.intro ((HB11.out.cell hxl1).trans x32) ((HB11.out.cell hxl2).trans x40)
      refine hK.out _ _ (fun _ => hHeld) (fun _ => ?_)
      clear hK K
      conv => arg 9; simp only [Act.put, List.setIfInBounds_toArray, List.set_cons_zero, List.set_cons_succ]
      have hUU := HU11.out
      have hJJ := HJ11.out
      obtain ⟨AU, cU, eU⟩ := own_form hUU
      obtain ⟨AJ, cJ, eJ⟩ := own_form hJJ
      subst eU
      subst eJ
      have HUU := Lib.hid hUU
      have HJJ := Lib.hid hJJ
      have hkb := HKB.out.below HB11.out HKB.out.lt
      have f32 := hkb.frozen 32
      have f40 := hkb.frozen 40
      have q32 : y11.cell? ⟨w4.heap.size, 32, none⟩ = some (.slice A1 rn c1) := ent_cell hkb 0
      have q40 : y11.cell? ⟨w4.heap.size, 40, none⟩ = some (.slice A2 pn c2) := ent_cell hkb 8
      have HKL := Lib.hid hkb
      clear hkb hUU hJJ
      refine wpAnyL_ready (rs := [9]) (by kernel_rfl) (by simp) ?_
      refine AllReadyL.cons (o := ⟨none, _, _, _, _, _⟩) rfl (fun K hK => ?_) AllReadyL.nil
      go_simp
      refine hK.out _ _ (fun hn => absurd hn (noneUp_not (by kernel_rfl))) (fun _ => ?_)
      clear hK K
      conv => arg 9; simp only [Act.put, List.setIfInBounds_toArray, List.set_cons_zero, List.set_cons_succ]
      refine wpAnyL_pure (i := 10) (oi := ⟨some 33, _, _, _, _, _⟩) (v := ?_) rfl (by kernel_rfl) (by kernel_rfl) (by kernel_rfl) (fun _ _ _ h => h) (by kernel_rfl) (Or.inl ⟨by kernel_rfl, ?_⟩) (fun hn => absurd hn (noneUp_not (by kernel_rfl))) ?_
      rotate_left
      · intro w hSw
        go_simp
        all_goals (with_reducible rfl)
      conv => arg 9; simp only [Act.put, List.setIfInBounds_toArray, List.set_cons_zero, List.set_cons_succ]
      refine wpAnyL_ready (rs := [11]) (by kernel_rfl) (by simp) ?_
      refine AllReadyL.cons (o := ⟨none, _, _, _, _, _⟩) rfl (fun K hK => ?_) AllReadyL.nil
      go_simp
      refine hK.out _ _ (fun hn => absurd hn (noneUp_not (by kernel_rfl))) (fun _ => ?_)
      clear hK K
      conv => arg 9; simp only [Act.put, List.setIfInBounds_toArray, List.set_cons_zero, List.set_cons_succ]
      refine wpAnyL_done (by kernel_rfl) ?_ _
      refine NoPanic.normal ?_
      generalize hwz : World.setCell (World.setCell _ _ _) _ _ = wz
      clear f32 f40 q32 q40 hHeld
      have hkz : Blk wz w4.heap.size 38 (entCells en (.slice AU (1 + rn) cU) (.slice AJ (1 + pn) cJ)).toArray := by
        rw [← hwz, ← entCells_set en (.slice A1 rn c1) (.slice A2 pn c2)]
        exact (HKL.out.set_ 32 _).set_ 40 _
      have hoz : Only (fun k => k = w4.heap.size) y11 wz := by
        rw [← hwz]
        exact ((Only.refl (fun k => k = w4.heap.size) _).setCell_ (p := ⟨w4.heap.size, 32, none⟩) (.inl rfl) _).setCell_ (p := ⟨w4.heap.size, 40, none⟩) (.inl rfl) _
      have hUz := owns_only HUU.out hoz (fun k h1 h2 => own_blk_ne HUU.out HKL.out (by decide) (h2 ▸ h1))
      have hJz := owns_only HJJ.out hoz (fun k h1 h2 => own_blk_ne HJJ.out HKL.out (by decide) (h2 ▸ h1))
      have hO := (Only.of_below (fun k => k = w4.heap.size) HB11.out).trans hoz (fun k hk => .inl hk)
      go_wp2_with fail
      go_meet
      exact ⟨_, _, hO, hkz, hUz, hJz⟩
  case rest =>
    obtain ⟨vU, vJ, ho7, hk7, hu7, hj7⟩ := hcut
    obtain ⟨bx, hbx⟩ : ∃ b, w4.heap.size = b := ⟨_, rfl⟩
    rw [hbx] at ho7 hk7 ⊢
    obtain ⟨e1, he1⟩ : ∃ e1 : Ent, ({ en with rn := 1 + rn, raw := glue 1 (fun _ => 1) raw, peers := 1 :: ps } : Ent) = e1 := ⟨_, rfl⟩
    have hc1 : ∀ rv pv, entCells en rv pv = entCells e1 rv pv := fun rv pv => by rw [← he1]; rfl
    have hea : EntAt wc w6.heap.size e1 vU vJ := by
      rw [← he1]
      refine ⟨?_, ?_⟩
      · show World.ownsRow wc _ _ _ _ (1 + rn) (bytesOf (1 + rn) (glue 1 (fun _ => 1) raw))
        rw [← bytesOf_glue]; exact hu7
      · show World.ownsRow wc _ _ _ _ (1 :: ps).length (intsV (1 :: ps))
        rw [List.length_cons, ← hps, hpn, Nat.add_comm, hps]; exact hj7
    have hm3 : e1.rn ≤ 9 := by rw [← he1]; show 1 + rn ≤ 9; omega
    have hm4 : e1.peers.length ≤ 3 := by rw [← he1]; show (1 :: ps).length ≤ 3; rw [List.length_cons, ← hps, hpn]; omega
    have HBY : Hid (∃ rn0 pn0 T1 T2, e1.rn = rn0 + 1 ∧ e1.peers.length = pn0 + 1 ∧ bytesOf (rn0 + 1) e1.raw = .int .u8 1 :: T1 ∧ intsV e1.peers = .int .i64 1 :: T2) := Lib.hid ⟨rn, pn, bytesOf rn raw, intsV ps, by rw [← he1]; exact Nat.add_comm _ _, by rw [← he1]; show (1 :: ps).length = _; rw [List.length_cons, ← hps, hpn], by rw [← he1]; show bytesOf (rn + 1) (glue 1 (fun _ => 1) raw) = _; rw [Nat.add_comm, ← bytesOf_glue]; rfl, by rw [← he1]; rfl⟩
    rw [hc1] at hk7
    have hzc := ho7.size
    have hbxB : B ≤ bx := by omega
    have hbl6 : bx < w6.heap.size := by rw [← hbx]; exact HK6.out.lt
    have HBC := Lib.hid (Only.below_trans HB6.out ho7 (by omega) (fun k hk => by omega))
    have hK6b := HK6.out
    rw [hbx] at hK6b
    have HRC := Lib.hid (HR6.out.apart ho7 (fun g hg => ⟨38, _, hg.symm ▸ hK6b, by decide⟩))
    clear hK6b
    have qa : AggOk 41 wc (.pointer (some ⟨bx, 0, none⟩)) := aggOk_mk (blk_rangeN hk7) (entCells_len _ _ _)
    have ld := loadN_eq (n := 41) (blk_rangeN hk7) (entCells_len _ _ _)
    have qs := box_sto wc e1 vU vJ hea.one
    have HEC := Lib.hid hea
    have HK7 := Lib.hid hk7
    clear ho7 hk7 hu7 hj7 hea hc1 he1 HRA HPA HBS HKB x32 x40 hxl1 hxl2 hrv hpv HK6 HE6 HR6 hbx
    go_upto_region 9 with (fail)
    generalize hwb : storeMid _ _ _ = w8
    have hbx8 := box_end hwb
    have HB8 := Lib.hid (HBC.out.trans (hbx8.1.mono (by omega)))
    have HR8 := Lib.hid (HRC.out.below hbx8.1)
    have HK8 := Lib.hid (HK7.out.below hbx8.1 HK7.out.lt)
    have HF8 := Lib.hid hbx8.2
    have HE8 := Lib.hid (HEC.out.below hbx8.1)
    have hz8 := hbx8.1.size
    have hbl8 := HF8.out.lt
    obtain ⟨fx, hfx⟩ : ∃ b, wc.heap.size = b := ⟨_, rfl⟩
    rw [hfx] at HF8 hbl8 ⊢
    have hbf : bx < fx := by omega
    clear qs qa ld hwb hbx8 hm1 hm2 hrn hpn hraw hps
    have hm1 := hm3
    have hm2 := hm4
    obtain ⟨rn, hrn⟩ : ∃ k, e1.rn = k := ⟨_, rfl⟩
    obtain ⟨pn, hpn⟩ : ∃ k, e1.peers.length = k := ⟨_, rfl⟩
    obtain ⟨raw, hraw⟩ : ∃ k, e1.raw = k := ⟨_, rfl⟩
    obtain ⟨ps, hps⟩ : ∃ k, e1.peers = k := ⟨_, rfl⟩
    have hea := HE8.out
    obtain ⟨A1, c1, hrv⟩ := own_form hea.raw
    obtain ⟨A2, c2, hpv⟩ := own_form hea.peers
    rw [hrn] at hrv hm1
    rw [hpn] at hpv hm2
    have x32 : w8.cell? ⟨bx, 32, none⟩ = some (.slice A1 rn c1) := by rw [← hrv]; exact ent_cell HK8.out 0
    have x40 : w8.cell? ⟨bx, 40, none⟩ = some (.slice A2 pn c2) := by rw [← hpv]; exact ent_cell HK8.out 8
    have hxl1 : (⟨bx, 32, none⟩ : Addr).block < w8.heap.size := HK8.out.lt
    have hxl2 : (⟨bx, 40, none⟩ : Addr).block < w8.heap.size := HK8.out.lt
    have HRA : Hid (∀ W, Below w8.heap.size w8 W → Reads W w8.heap.size 1 A1 rn (bytesOf rn raw)) := fun W hW => by
      have h1 := hea.raw
      rw [hrv, hrn, hraw] at h1
      exact (Reads.of_own h1).below hW
    have HPA : Hid (∀ W, Below w8.heap.size w8 W → Reads W w8.heap.size 1 A2 pn (intsV ps)) := fun W hW => by
      have h1 := hea.peers
      rw [hpv, hpn, hps] at h1
      exact (Reads.of_own h1).below hW
    have HBS := Lib.hid (Below.refl w8.heap.size w8)
    have HKB := HF8
    rw [hrv, hpv] at HKB
    have hfar : fx ≠ bx := by omega
    clear hea
    go_cut [35] (fun _ wx => ∃ vU vJ, Only (fun k => k = fx) w8 wx ∧ Blk wx fx 38 (entCells e1 vU vJ).toArray ∧ wx.ownsRow w8.heap.size 5 1 vU (rn) (bytesOf rn raw) ∧ wx.ownsRow w8.heap.size 3 1 vJ (pn) (intsV ps))
    case first =>
      refine wp_region_noPanic ?_
      refine wp_region_heldL_drew (S := fun W => W.cell? ⟨bx, 32, none⟩ = some (.slice A1 rn c1) ∧ W.cell? ⟨bx, 40, none⟩ = some (.slice A2 pn c2)) (B := []) (by kernel_rfl) ⟨x32, x40⟩ (fun hHeld => ?_)
      refine wpAnyL_pure (i := 1) (oi := ⟨some 36, _, _, _, _, _⟩) (v := ?_) rfl (by kernel_rfl) (by kernel_rfl) (by kernel_rfl) (fun _ _ _ h => h) (by kernel_rfl) (Or.inl ⟨by kernel_rfl, ?_⟩) (fun _ => hHeld) ?_
      rotate_left
      · intro w hSw
        go_simp
        all_goals (with_reducible rfl)
      conv => arg 9; simp only [Act.put, List.setIfInBounds_toArray, List.set_cons_zero, List.set_cons_succ]
      refine wpAnyL_take (i := 2) (oi := ⟨some 37, _, _, _, _, _⟩) (v := ?_) rfl (by kernel_rfl) (by kernel_rfl) (by kernel_rfl) (fun _ _ _ h => h) (by kernel_rfl) (by kernel_rfl) (by kernel_rfl) (Or.inl ⟨by kernel_rfl, ?_⟩) (fun _ => hHeld) ?_
      rotate_left
      · intro w hSw
        obtain ⟨s1, s2⟩ := hSw
        go_simp
        all_goals (with_reducible rfl)
      conv => arg 9; simp only [Act.put, List.setIfInBounds_toArray, List.set_cons_zero, List.set_cons_succ]
      refine wpAnyL_pure (i := 5) (oi := ⟨some 40, _, _, _, _, _⟩) (v := ?_) rfl (by kernel_rfl) (by kernel_rfl) (by kernel_rfl) (fun _ _ _ h => h) (by kernel_rfl) (Or.inl ⟨by kernel_rfl, ?_⟩) (fun _ => hHeld) ?_
      rotate_left
      · intro w hSw
        go_simp
        all_goals (with_reducible rfl)
      conv => arg 9; simp only [Act.put, List.setIfInBounds_toArray, List.set_cons_zero, List.set_cons_succ]
      refine wpAnyL_take (i := 6) (oi := ⟨some 41, _, _, _, _, _⟩) (v := ?_) rfl (by kernel_rfl) (by kernel_rfl) (by kernel_rfl) (fun _ _ _ h => h) (by kernel_rfl) (by kernel_rfl) (by kernel_rfl) (Or.inl ⟨by kernel_rfl, ?_⟩) (fun _ => hHeld) ?_
      rotate_left
      · intro w hSw
        obtain ⟨s1, s2⟩ := hSw
        go_simp
        all_goals (with_reducible rfl)
      conv => arg 9; simp only [Act.put, List.setIfInBounds_toArray, List.set_cons_zero, List.set_cons_succ]
      refine wpAnyL_ready (rs := [0, 4]) (by kernel_rfl) (by simp) ?_
      refine AllReadyL.cons (o := ⟨some 35, _, _, _, _, _⟩) rfl (fun K hK => ?_) (AllReadyL.cons (o := ⟨some 39, _, _, _, _, _⟩) rfl (fun K hK => ?_) AllReadyL.nil)
      · go_simp
        generalize hW : World.drew (World.alloc _ _) = y1
        have hb1 : Below w8.heap.size w8 y1 := by rw [← hW]; exact belowDrewR ((Below.refl _ _).alloc (Nat.le_refl _) _)
        have ho1 : y1.ownsRow w8.heap.size 5 1 (.slice (some ⟨w8.heap.size, 0, none⟩) 0 0) 0 [] := by rw [← hW]; exact (owns_base2 (lit_own0 _ _) HBS.out.size).drew
        have HU1 := Lib.hid ho1
        have HB1 := Lib.hid (HBS.out.trans (hb1.mono HBS.out.size))
        clear hW hb1 ho1 hHeld
        have hHeld := And.intro ((HB1.out.cell hxl1).trans x32) ((HB1.out.cell hxl2).trans x40)
        refine hK.out _ _ (fun _ => hHeld) (fun _ => ?_)
        clear hK K
        conv => arg 9; simp only [Act.put, List.setIfInBounds_toArray, List.set_cons_zero, List.set_cons_succ]
        refine wpAnyL_ready (rs := [3, 4]) (by kernel_rfl) (by simp) ?_
        refine AllReadyL.cons (o := ⟨some 38, _, _, _, _, _⟩) rfl (fun K hK => ?_) (AllReadyL.cons (o := ⟨some 39, _, _, _, _, _⟩) rfl (fun K hK => ?_) AllReadyL.nil)
        · refine step_append_any _ (by rfl) (.tmp 35) (.tmp 37) _ (by rfl) w8.heap.size 5 i0 _ 1 1 Try.underlying35 HI0.out HZ0.out hz1 hz2 rfl (by omega) (.slice (some ⟨w8.heap.size, 0, none⟩) 0 0) 0 [] (by rfl) HU1.out _ A1 rn c1 (bytesOf rn raw) (by rfl) (HRA.out _ HB1.out) (bytesOf_one _ _) (by unfold maxLen; omega) (by omega) HB1.out.size ?_
          intro v2 y2 ho2 hg2 hat2
          rw [Nat.zero_add, List.nil_append] at ho2
          have hq2 : Below w8.heap.size w8 y2 := HB1.out.grown hg2 HB1.out.size (fun g e => (HU1.out.lt g e).1)
          have HU2 := Lib.hid ho2
          have HB2 := Lib.hid hq2
          clear ho2 hg2 hat2 hq2 hHeld
          have hHeld := And.intro ((HB2.out.cell hxl1).trans x32) ((HB2.out.cell hxl2).trans x40)
          refine hK.out _ _ (fun _ => hHeld) (fun _ => ?_)
          clear hK K
          conv => arg 9; simp only [Act.put, List.setIfInBounds_toArray, List.set_cons_zero, List.set_cons_succ]
          refine wpAnyL_pure (i := 8) (oi := ⟨some 43, _, _, _, _, _⟩) (v := ?_) rfl (by kernel_rfl) (by kernel_rfl) (by kernel_rfl) (fun _ _ _ h => h) (by kernel_rfl) (Or.inl ⟨by kernel_rfl, ?_⟩) (fun _ => hHeld) ?_
          rotate_left
          · intro w hSw
            go_simp
            all_goals (with_reducible rfl)
          conv => arg 9; simp only [Act.put, List.setIfInBounds_toArray, List.set_cons_zero, List.set_cons_succ]
          refine wpAnyL_ready (rs := [4]) (by kernel_rfl) (by simp) ?_
          refine AllReadyL.cons (o := ⟨some 39, _, _, _, _, _⟩) rfl (fun K hK => ?_) AllReadyL.nil
          go_simp
          generalize hW : World.alloc _ _ = y3
          have hb3 : Below y2.heap.size y2 y3 := by rw [← hW]; exact ((Below.refl _ _).alloc (Nat.le_refl _) _)
          have ho3 : y3.ownsRow w8.heap.size 3 1 (.slice (some ⟨y2.heap.size, 0, none⟩) 0 0) 0 [] := by rw [← hW]; exact (owns_base2 (lit_own0 _ _) HB2.out.size)
          have HJ3 := Lib.hid ho3
          have HU3 := Lib.hid (owns_below HU2.out hb3)
          have HB3 := Lib.hid (HB2.out.trans (hb3.mono HB2.out.size))
          clear hW hb3 ho3 hHeld
          have hHeld := And.intro ((HB3.out.cell hxl1).trans x32) ((HB3.out.cell hxl2).trans x40)
          refine hK.out _ _ (fun _ => hHeld) (fun _ => ?_)
          clear hK K
          conv => arg 9; simp only [Act.put, List.setIfInBounds_toArray, List.set_cons_zero, List.set_cons_succ]
          refine wpAnyL_ready (rs := [7]) (by kernel_rfl) (by simp) ?_
          refine AllReadyL.cons (o := ⟨some 42, _, _, _, _, _⟩) rfl (fun K hK => ?_) AllReadyL.nil
          refine step_append_any _ (by rfl) (.tmp 39) (.tmp 41) _ (by rfl) w8.heap.size 3 i1 _ 1 8 Try.underlying22 HI1.out HY0.out hy1 hy2 rfl (by omega) (.slice (some ⟨y2.heap.size, 0, none⟩) 0 0) 0 [] (by rfl) HJ3.out _ A2 pn c2 (intsV ps) (by rfl) (HPA.out _ HB3.out) (intsV_one _) (by unfold maxLen; omega) (by omega) HB3.out.size ?_
          intro v4 y4 ho4 hg4 hat4
          rw [Nat.zero_add, List.nil_append] at ho4
          have hq4 : Below w8.heap.size w8 y4 := HB3.out.grown hg4 HB3.out.size (fun g e => (HJ3.out.lt g e).1)
          have HJ4 := Lib.hid ho4
          have HU4 := Lib.hid (owns_only HU3.out (Only.of_grown hg4) (fun g h1 h2 => owns_ne2 HU3.out HJ3.out (by decide) h1 h2))
          have HB4 := Lib.hid hq4
          clear ho4 hg4 hat4 hq4 hHeld
          have hHeld := And.intro ((HB4.out.cell hxl1).trans x32) ((HB4.out.cell hxl2).trans x40)
          refine hK.out _ _ (fun _ => hHeld) (fun _ => ?_)
          clear hK K
          conv => arg 9; simp only [Act.put, List.setIfInBounds_toArray, List.set_cons_zero, List.set_cons_succ]
          have hUU := HU4.out
          have hJJ := HJ4.out
          obtain ⟨AU, cU, eU⟩ := own_form hUU
          obtain ⟨AJ, cJ, eJ⟩ := own_form hJJ
          subst eU
          subst eJ
          have HUU := Lib.hid hUU
          have HJJ := Lib.hid hJJ
          have hkb := HKB.out.below HB4.out HKB.out.lt
          have f32 := hkb.frozen 32
          have f40 := hkb.frozen 40
          have q32 : y4.cell? ⟨fx, 32, none⟩ = some (.slice A1 rn c1) := ent_cell hkb 0
          have q40 : y4.cell? ⟨fx, 40, none⟩ = some (.slice A2 pn c2) := ent_cell hkb 8
          have HKL := Lib.hid hkb
          clear hkb hUU hJJ
          refine wpAnyL_ready (rs := [9]) (by kernel_rfl) (by simp) ?_
          refine AllReadyL.cons (o := ⟨none, _, _, _, _, _⟩) rfl (fun K hK => ?_) AllReadyL.nil
          go_simp
          refine hK.out _ _ (fun _ => And.intro ((World.cell?_setCell_far _ ⟨fx, 32, none⟩ _ _ hfar).trans hHeld.1) ((World.cell?_setCell_far _ ⟨fx, 32, none⟩ _ _ hfar).trans hHeld.2)) (fun hn => ?_)
          have hHeld := hn (fun b hb => by cases hb)
          clear hK K hn
          conv => arg 9; simp only [Act.put, List.setIfInBounds_toArray, List.set_cons_zero, List.set_cons_succ]
          refine wpAnyL_pure (i := 10) (oi := ⟨some 44, _, _, _, _, _⟩) (v := ?_) rfl (by kernel_rfl) (by kernel_rfl) (by kernel_rfl) (fun _ _ _ h => h) (by kernel_rfl) (Or.inl ⟨by kernel_rfl, ?_⟩) (fun _ => hHeld) ?_
          rotate_left
          · intro w hSw
            go_simp
            all_goals (with_reducible rfl)
          conv => arg 9; simp only [Act.put, List.setIfInBounds_toArray, List.set_cons_zero, List.set_cons_succ]
          refine wpAnyL_ready (rs := [11]) (by kernel_rfl) (by simp) ?_
          refine AllReadyL.cons (o := ⟨none, _, _, _, _, _⟩) rfl (fun K hK => ?_) AllReadyL.nil
          go_simp
          refine hK.out _ _ (fun _ => And.intro ((World.cell?_setCell_far _ ⟨fx, 40, none⟩ _ _ hfar).trans hHeld.1) ((World.cell?_setCell_far _ ⟨fx, 40, none⟩ _ _ hfar).trans hHeld.2)) (fun hn => ?_)
          have hHeld := hn (fun b hb => by cases hb)
          clear hK K hn
          conv => arg 9; simp only [Act.put, List.setIfInBounds_toArray, List.set_cons_zero, List.set_cons_succ]
          refine wpAnyL_done (by kernel_rfl) ?_ _
          refine NoPanic.normal ?_
          generalize hwz : World.setCell (World.setCell _ _ _) _ _ = wz
          clear f32 f40 q32 q40 hHeld
          have hkz : Blk wz fx 38 (entCells e1 (.slice AU (rn) cU) (.slice AJ (pn) cJ)).toArray := by
            rw [← hwz, ← entCells_set e1 (.slice A1 rn c1) (.slice A2 pn c2)]
            exact (HKL.out.set_ 32 _).set_ 40 _
          have hoz : Only (fun k => k = fx) y4 wz := by
            rw [← hwz]
            exact ((Only.refl (fun k => k = fx) _).setCell_ (p := ⟨fx, 32, none⟩) (.inl rfl) _).setCell_ (p := ⟨fx, 40, none⟩) (.inl rfl) _
          have hUz := owns_only HUU.out hoz (fun k h1 h2 => own_blk_ne HUU.out HKL.out (by decide) (h2 ▸ h1))
          have hJz := owns_only HJJ.out hoz (fun k h1 h2 => own_blk_ne HJJ.out HKL.out (by decide) (h2 ▸ h1))
          have hO := (Only.of_below (fun k => k = fx) HB4.out).trans hoz (fun k hk => .inl hk)
          go_wp2_with fail
          go_meet
          exact ⟨_, _, hO, hkz, hUz, hJz⟩
        · go_simp
          generalize hW : World.alloc _ _ = y5
          have hb5 : Below y1.heap.size y1 y5 := by rw [← hW]; exact ((Below.refl _ _).alloc (Nat.le_refl _) _)
          have ho5 : y5.ownsRow w8.heap.size 3 1 (.slice (some ⟨y1.heap.size, 0, none⟩) 0 0) 0 [] := by rw [← hW]; exact (owns_base2 (lit_own0 _ _) HB1.out.size)
          have HJ5 := Lib.hid ho5
          have HU5 := Lib.hid (owns_below HU1.out hb5)
          have HB5 := Lib.hid (HB1.out.trans (hb5.mono HB1.out.size))
          clear hW hb5 ho5 hHeld
          have hHeld := And.intro ((HB5.out.cell hxl1).trans x32) ((HB5.out.cell hxl2).trans x40)
          refine hK.out _ _ (fun _ => hHeld) (fun _ => ?_)
          clear hK K
          conv => arg 9; simp only [Act.put, List.setIfInBounds_toArray, List.set_cons_zero, List.set_cons_succ]
          refine wpAnyL_ready (rs := [3]) (by kernel_rfl) (by simp) ?_
          refine AllReadyL.cons (o := ⟨some 38, _, _, _, _, _⟩) rfl (fun K hK => ?_) AllReadyL.nil
          refine step_append_any _ (by rfl) (.tmp 35) (.tmp 37) _ (by rfl) w8.heap.size 5 i0 _ 1 1 Try.underlying35 HI0.out HZ0.out hz1 hz2 rfl (by omega) (.slice (some ⟨w8.heap.size, 0, none⟩) 0 0) 0 [] (by rfl) HU5.out _ A1 rn c1 (bytesOf rn raw) (by rfl) (HRA.out _ HB5.out) (bytesOf_one _ _) (by unfold maxLen; omega) (by omega) HB5.out.size ?_
          intro v6 y6 ho6 hg6 hat6
          rw [Nat.zero_add, List.nil_append] at ho6
          have hq6 : Below w8.heap.size w8 y6 := HB5.out.grown hg6 HB5.out.size (fun g e => (HU5.out.lt g e).1)
          have HU6 := Lib.hid ho6
          have HJ6 := Lib.hid (owns_only HJ5.out (Only.of_grown hg6) (fun g h1 h2 => owns_ne2 HJ5.out HU5.out (by decide) h1 h2))
          have HB6 := Lib.hid hq6
          clear ho6 hg6 hat6 hq6 hHeld
          have hHeld := And.intro ((HB6.out.cell hxl1).trans x32) ((HB6.out.cell hxl2).trans x40)
          refine hK.out _ _ (fun _ => hHeld) (fun _ => ?_)
          clear hK K
          conv => arg 9; simp only [Act.put, List.setIfInBounds_toArray, List.set_cons_zero, List.set_cons_succ]
          refine wpAnyL_pure (i := 8) (oi := ⟨some 43, _, _, _, _, _⟩) (v := ?_) rfl (by kernel_rfl) (by kernel_rfl) (by kernel_rfl) (fun _ _ _ h => h) (by kernel_rfl) (Or.inl ⟨by kernel_rfl, ?_⟩) (fun _ => hHeld) ?_
          rotate_left
          · intro w hSw
            go_simp
            all_goals (with_reducible rfl)
          conv => arg 9; simp only [Act.put, List.setIfInBounds_toArray, List.set_cons_zero, List.set_cons_succ]
          refine wpAnyL_ready (rs := [7]) (by kernel_rfl) (by simp) ?_
          refine AllReadyL.cons (o := ⟨some 42, _, _, _, _, _⟩) rfl (fun K hK => ?_) AllReadyL.nil
          refine step_append_any _ (by rfl) (.tmp 39) (.tmp 41) _ (by rfl) w8.heap.size 3 i1 _ 1 8 Try.underlying22 HI1.out HY0.out hy1 hy2 rfl (by omega) (.slice (some ⟨y1.heap.size, 0, none⟩) 0 0) 0 [] (by rfl) HJ6.out _ A2 pn c2 (intsV ps) (by rfl) (HPA.out _ HB6.out) (intsV_one _) (by unfold maxLen; omega) (by omega) HB6.out.size ?_
          intro v7 y7 ho7 hg7 hat7
          rw [Nat.zero_add, List.nil_append] at ho7
          have hq7 : Below w8.heap.size w8 y7 := HB6.out.grown hg7 HB6.out.size (fun g e => (HJ6.out.lt g e).1)
          have HJ7 := Lib.hid ho7
          have HU7 := Lib.hid (owns_only HU6.out (Only.of_grown hg7) (fun g h1 h2 => owns_ne2 HU6.out HJ6.out (by decide) h1 h2))
          have HB7 := Lib.hid hq7
          clear ho7 hg7 hat7 hq7 hHeld
          have hHeld := And.intro ((HB7.out.cell hxl1).trans x32) ((HB7.out.cell hxl2).trans x40)
          refine hK.out _ _ (fun _ => hHeld) (fun _ => ?_)
          clear hK K
          conv => arg 9; simp only [Act.put, List.setIfInBounds_toArray, List.set_cons_zero, List.set_cons_succ]
          have hUU := HU7.out
          have hJJ := HJ7.out
          obtain ⟨AU, cU, eU⟩ := own_form hUU
          obtain ⟨AJ, cJ, eJ⟩ := own_form hJJ
          subst eU
          subst eJ
          have HUU := Lib.hid hUU
          have HJJ := Lib.hid hJJ
          have hkb := HKB.out.below HB7.out HKB.out.lt
          have f32 := hkb.frozen 32
          have f40 := hkb.frozen 40
          have q32 : y7.cell? ⟨fx, 32, none⟩ = some (.slice A1 rn c1) := ent_cell hkb 0
          have q40 : y7.cell? ⟨fx, 40, none⟩ = some (.slice A2 pn c2) := ent_cell hkb 8
          have HKL := Lib.hid hkb
          clear hkb hUU hJJ
          refine wpAnyL_ready (rs := [9]) (by kernel_rfl) (by simp) ?_
          refine AllReadyL.cons (o := ⟨none, _, _, _, _, _⟩) rfl (fun K hK => ?_) AllReadyL.nil
          go_simp
          refine hK.out _ _ (fun _ => And.intro ((World.cell?_setCell_far _ ⟨fx, 32, none⟩ _ _ hfar).trans hHeld.1) ((World.cell?_setCell_far _ ⟨fx, 32, none⟩ _ _ hfar).trans hHeld.2)) (fun hn => ?_)
          have hHeld := hn (fun b hb => by cases hb)
          clear hK K hn
          conv => arg 9; simp only [Act.put, List.setIfInBounds_toArray, List.set_cons_zero, List.set_cons_succ]
          refine wpAnyL_pure (i := 10) (oi := ⟨some 44, _, _, _, _, _⟩) (v := ?_) rfl (by kernel_rfl) (by kernel_rfl) (by kernel_rfl) (fun _ _ _ h => h) (by kernel_rfl) (Or.inl ⟨by kernel_rfl, ?_⟩) (fun _ => hHeld) ?_
          rotate_left
          · intro w hSw
            go_simp
            all_goals (with_reducible rfl)
          conv => arg 9; simp only [Act.put, List.setIfInBounds_toArray, List.set_cons_zero, List.set_cons_succ]
          refine wpAnyL_ready (rs := [11]) (by kernel_rfl) (by simp) ?_
          refine AllReadyL.cons (o := ⟨none, _, _, _, _, _⟩) rfl (fun K hK => ?_) AllReadyL.nil
          go_simp
          refine hK.out _ _ (fun _ => And.intro ((World.cell?_setCell_far _ ⟨fx, 40, none⟩ _ _ hfar).trans hHeld.1) ((World.cell?_setCell_far _ ⟨fx, 40, none⟩ _ _ hfar).trans hHeld.2)) (fun hn => ?_)
          have hHeld := hn (fun b hb => by cases hb)
          clear hK K hn
          conv => arg 9; simp only [Act.put, List.setIfInBounds_toArray, List.set_cons_zero, List.set_cons_succ]
          refine wpAnyL_done (by kernel_rfl) ?_ _
          refine NoPanic.normal ?_
          generalize hwz : World.setCell (World.setCell _ _ _) _ _ = wz
          clear f32 f40 q32 q40 hHeld
          have hkz : Blk wz fx 38 (entCells e1 (.slice AU (rn) cU) (.slice AJ (pn) cJ)).toArray := by
            rw [← hwz, ← entCells_set e1 (.slice A1 rn c1) (.slice A2 pn c2)]
            exact (HKL.out.set_ 32 _).set_ 40 _
          have hoz : Only (fun k => k = fx) y7 wz := by
            rw [← hwz]
            exact ((Only.refl (fun k => k = fx) _).setCell_ (p := ⟨fx, 32, none⟩) (.inl rfl) _).setCell_ (p := ⟨fx, 40, none⟩) (.inl rfl) _
          have hUz := owns_only HUU.out hoz (fun k h1 h2 => own_blk_ne HUU.out HKL.out (by decide) (h2 ▸ h1))
          have hJz := owns_only HJJ.out hoz (fun k h1 h2 => own_blk_ne HJJ.out HKL.out (by decide) (h2 ▸ h1))
          have hO := (Only.of_below (fun k => k = fx) HB7.out).trans hoz (fun k hk => .inl hk)
          go_wp2_with fail
          go_meet
          exact ⟨_, _, hO, hkz, hUz, hJz⟩
      · go_simp
        generalize hW : World.drew (World.alloc _ _) = y8
        have hb8 : Below w8.heap.size w8 y8 := by rw [← hW]; exact belowDrewR ((Below.refl _ _).alloc (Nat.le_refl _) _)
        have ho8 : y8.ownsRow w8.heap.size 3 1 (.slice (some ⟨w8.heap.size, 0, none⟩) 0 0) 0 [] := by rw [← hW]; exact (owns_base2 (lit_own0 _ _) HBS.out.size).drew
        have HJ8 := Lib.hid ho8
        have HB8 := Lib.hid (HBS.out.trans (hb8.mono HBS.out.size))
        clear hW hb8 ho8 hHeld
        have hHeld := And.intro ((HB8.out.cell hxl1).trans x32) ((HB8.out.cell hxl2).trans x40)
        refine hK.out _ _ (fun _ => hHeld) (fun _ => ?_)
        clear hK K
        conv => arg 9; simp only [Act.put, List.setIfInBounds_toArray, List.set_cons_zero, List.set_cons_succ]
        refine wpAnyL_ready (rs := [0]) (by kernel_rfl) (by simp) ?_
        refine AllReadyL.cons (o := ⟨some 35, _, _, _, _, _⟩) rfl (fun K hK => ?_) AllReadyL.nil
        go_simp
        generalize hW : World.alloc _ _ = y9
        have hb9 : Below y8.heap.size y8 y9 := by rw [← hW]; exact ((Below.refl _ _).alloc (Nat.le_refl _) _)
        have ho9 : y9.ownsRow w8.heap.size 5 1 (.slice (some ⟨y8.heap.size, 0, none⟩) 0 0) 0 [] := by rw [← hW]; exact (owns_base2 (lit_own0 _ _) HB8.out.size)
        have HU9 := Lib.hid ho9
        have HJ9 := Lib.hid (owns_below HJ8.out hb9)
        have HB9 := Lib.hid (HB8.out.trans (hb9.mono HB8.out.size))
        clear hW hb9 ho9 hHeld
        have hHeld := And.intro ((HB9.out.cell hxl1).trans x32) ((HB9.out.cell hxl2).trans x40)
        refine hK.out _ _ (fun _ => hHeld) (fun _ => ?_)
        clear hK K
        conv => arg 9; simp only [Act.put, List.setIfInBounds_toArray, List.set_cons_zero, List.set_cons_succ]
        refine wpAnyL_ready (rs := [3]) (by kernel_rfl) (by simp) ?_
        refine AllReadyL.cons (o := ⟨some 38, _, _, _, _, _⟩) rfl (fun K hK => ?_) AllReadyL.nil
        refine step_append_any _ (by rfl) (.tmp 35) (.tmp 37) _ (by rfl) w8.heap.size 5 i0 _ 1 1 Try.underlying35 HI0.out HZ0.out hz1 hz2 rfl (by omega) (.slice (some ⟨y8.heap.size, 0, none⟩) 0 0) 0 [] (by rfl) HU9.out _ A1 rn c1 (bytesOf rn raw) (by rfl) (HRA.out _ HB9.out) (bytesOf_one _ _) (by unfold maxLen; omega) (by omega) HB9.out.size ?_
        intro v10 y10 ho10 hg10 hat10
        rw [Nat.zero_add, List.nil_append] at ho10
        have hq10 : Below w8.heap.size w8 y10 := HB9.out.grown hg10 HB9.out.size (fun g e => (HU9.out.lt g e).1)
        have HU10 := Lib.hid ho10
        have HJ10 := Lib.hid (owns_only HJ9.out (Only.of_grown hg10) (fun g h1 h2 => owns_ne2 HJ9.out HU9.out (by decide) h1 h2))
        have HB10 := Lib.hid hq10
        clear ho10 hg10 hat10 hq10 hHeld
        have hHeld := And.intro ((HB10.out.cell hxl1).trans x32) ((HB10.out.cell hxl2).trans x40)
        refine hK.out _ _ (fun _ => hHeld) (fun _ => ?_)
        clear hK K
        conv => arg 9; simp only [Act.put, List.setIfInBounds_toArray, List.set_cons_zero, List.set_cons_succ]
        refine wpAnyL_pure (i := 8) (oi := ⟨some 43, _, _, _, _, _⟩) (v := ?_) rfl (by kernel_rfl) (by kernel_rfl) (by kernel_rfl) (fun _ _ _ h => h) (by kernel_rfl) (Or.inl ⟨by kernel_rfl, ?_⟩) (fun _ => hHeld) ?_
        rotate_left
        · intro w hSw
          go_simp
          all_goals (with_reducible rfl)
        conv => arg 9; simp only [Act.put, List.setIfInBounds_toArray, List.set_cons_zero, List.set_cons_succ]
        refine wpAnyL_ready (rs := [7]) (by kernel_rfl) (by simp) ?_
        refine AllReadyL.cons (o := ⟨some 42, _, _, _, _, _⟩) rfl (fun K hK => ?_) AllReadyL.nil
        refine step_append_any _ (by rfl) (.tmp 39) (.tmp 41) _ (by rfl) w8.heap.size 3 i1 _ 1 8 Try.underlying22 HI1.out HY0.out hy1 hy2 rfl (by omega) (.slice (some ⟨w8.heap.size, 0, none⟩) 0 0) 0 [] (by rfl) HJ10.out _ A2 pn c2 (intsV ps) (by rfl) (HPA.out _ HB10.out) (intsV_one _) (by unfold maxLen; omega) (by omega) HB10.out.size ?_
        intro v11 y11 ho11 hg11 hat11
        rw [Nat.zero_add, List.nil_append] at ho11
        have hq11 : Below w8.heap.size w8 y11 := HB10.out.grown hg11 HB10.out.size (fun g e => (HJ10.out.lt g e).1)
        have HJ11 := Lib.hid ho11
        have HU11 := Lib.hid (owns_only HU10.out (Only.of_grown hg11) (fun g h1 h2 => owns_ne2 HU10.out HJ10.out (by decide) h1 h2))
        have HB11 := Lib.hid hq11
        clear ho11 hg11 hat11 hq11 hHeld
        have hHeld := And.intro ((HB11.out.cell hxl1).trans x32) ((HB11.out.cell hxl2).trans x40)
        refine hK.out _ _ (fun _ => hHeld) (fun _ => ?_)
        clear hK K
        conv => arg 9; simp only [Act.put, List.setIfInBounds_toArray, List.set_cons_zero, List.set_cons_succ]
        have hUU := HU11.out
        have hJJ := HJ11.out
        obtain ⟨AU, cU, eU⟩ := own_form hUU
        obtain ⟨AJ, cJ, eJ⟩ := own_form hJJ
        subst eU
        subst eJ
        have HUU := Lib.hid hUU
        have HJJ := Lib.hid hJJ
        have hkb := HKB.out.below HB11.out HKB.out.lt
        have f32 := hkb.frozen 32
        have f40 := hkb.frozen 40
        have q32 : y11.cell? ⟨fx, 32, none⟩ = some (.slice A1 rn c1) := ent_cell hkb 0
        have q40 : y11.cell? ⟨fx, 40, none⟩ = some (.slice A2 pn c2) := ent_cell hkb 8
        have HKL := Lib.hid hkb
        clear hkb hUU hJJ
        refine wpAnyL_ready (rs := [9]) (by kernel_rfl) (by simp) ?_
        refine AllReadyL.cons (o := ⟨none, _, _, _, _, _⟩) rfl (fun K hK => ?_) AllReadyL.nil
        go_simp
        refine hK.out _ _ (fun _ => And.intro ((World.cell?_setCell_far _ ⟨fx, 32, none⟩ _ _ hfar).trans hHeld.1) ((World.cell?_setCell_far _ ⟨fx, 32, none⟩ _ _ hfar).trans hHeld.2)) (fun hn => ?_)
        have hHeld := hn (fun b hb => by cases hb)
        clear hK K hn
        conv => arg 9; simp only [Act.put, List.setIfInBounds_toArray, List.set_cons_zero, List.set_cons_succ]
        refine wpAnyL_pure (i := 10) (oi := ⟨some 44, _, _, _, _, _⟩) (v := ?_) rfl (by kernel_rfl) (by kernel_rfl) (by kernel_rfl) (fun _ _ _ h => h) (by kernel_rfl) (Or.inl ⟨by kernel_rfl, ?_⟩) (fun _ => hHeld) ?_
        rotate_left
        · intro w hSw
          go_simp
          all_goals (with_reducible rfl)
        conv => arg 9; simp only [Act.put, List.setIfInBounds_toArray, List.set_cons_zero, List.set_cons_succ]
        refine wpAnyL_ready (rs := [11]) (by kernel_rfl) (by simp) ?_
        refine AllReadyL.cons (o := ⟨none, _, _, _, _, _⟩) rfl (fun K hK => ?_) AllReadyL.nil
        go_simp
        refine hK.out _ _ (fun _ => And.intro ((World.cell?_setCell_far _ ⟨fx, 40, none⟩ _ _ hfar).trans hHeld.1) ((World.cell?_setCell_far _ ⟨fx, 40, none⟩ _ _ hfar).trans hHeld.2)) (fun hn => ?_)
        have hHeld := hn (fun b hb => by cases hb)
        clear hK K hn
        conv => arg 9; simp only [Act.put, List.setIfInBounds_toArray, List.set_cons_zero, List.set_cons_succ]
        refine wpAnyL_done (by kernel_rfl) ?_ _
        refine NoPanic.normal ?_
        generalize hwz : World.setCell (World.setCell _ _ _) _ _ = wz
        clear f32 f40 q32 q40 hHeld
        have hkz : Blk wz fx 38 (entCells e1 (.slice AU (rn) cU) (.slice AJ (pn) cJ)).toArray := by
          rw [← hwz, ← entCells_set e1 (.slice A1 rn c1) (.slice A2 pn c2)]
          exact (HKL.out.set_ 32 _).set_ 40 _
        have hoz : Only (fun k => k = fx) y11 wz := by
          rw [← hwz]
          exact ((Only.refl (fun k => k = fx) _).setCell_ (p := ⟨fx, 32, none⟩) (.inl rfl) _).setCell_ (p := ⟨fx, 40, none⟩) (.inl rfl) _
        have hUz := owns_only HUU.out hoz (fun k h1 h2 => own_blk_ne HUU.out HKL.out (by decide) (h2 ▸ h1))
        have hJz := owns_only HJJ.out hoz (fun k h1 h2 => own_blk_ne HJJ.out HKL.out (by decide) (h2 ▸ h1))
        have hO := (Only.of_below (fun k => k = fx) HB11.out).trans hoz (fun k hk => .inl hk)
        go_wp2_with fail
        go_meet
        exact ⟨_, _, hO, hkz, hUz, hJz⟩
    case rest =>
      obtain ⟨vF, vG, ho9, hk9, hu9, hj9⟩ := hcut
      have heF : EntAt wc w8.heap.size e1 vF vG := by
        refine ⟨?_, ?_⟩
        · rw [hrn, hraw]; exact hu9
        · rw [hpn, hps]; exact hj9
      have hzc9 := ho9.size
      have HLU : Hid ((∀ g, vU.ownBlock = some g → g < w8.heap.size) ∧ (∀ g, vJ.ownBlock = some g → g < w8.heap.size)) := Lib.hid ⟨fun g hg => (HE8.out.raw.lt g hg).2, fun g hg => (HE8.out.peers.lt g hg).2⟩
      have HLF : Hid ((∀ g, vF.ownBlock = some g → w8.heap.size ≤ g ∧ g < wc.heap.size) ∧ (∀ g, vG.ownBlock = some g → w8.heap.size ≤ g ∧ g < wc.heap.size)) := Lib.hid ⟨fun g hg => heF.raw.lt g hg, fun g hg => heF.peers.lt g hg⟩
      have HBD := Lib.hid (Only.below_trans HB8.out ho9 (by omega) (fun k hk => by omega))
      have hf8 := HF8.out
      have HRD := Lib.hid (HR8.out.apart ho9 (fun g hg => ⟨38, _, hg.symm ▸ hf8, by decide⟩))
      have HKD := Lib.hid (HK8.out.only ho9 (fun e => by omega))
      have HED := Lib.hid (HE8.out.only ho9 (fun k h1 h2 => own_blk_ne HE8.out.raw hf8 (by decide) (h2 ▸ h1)) (fun k h1 h2 => own_blk_ne HE8.out.peers hf8 (by decide) (h2 ▸ h1)))
      have HFD := Lib.hid hk9
      have HGD := Lib.hid heF
      have qa : AggOk 41 wc (.pointer (some ⟨fx, 0, none⟩)) := aggOk_mk (blk_rangeN hk9) (entCells_len _ _ _)
      have ld := loadN_eq (n := 41) (blk_rangeN hk9) (entCells_len _ _ _)
      clear ho9 hk9 hu9 hj9 heF hf8 HRA HPA HBS HKB x32 x40 hxl1 hxl2 hrv hpv HK8 HE8 HR8 HF8
      go_wp2_with fail
      have hBw : B ≤ wc.heap.size := by omega
      refine (sadd_new wc B B _ [] _ _ _ HRD.out hBw (by show 0 ≤ 1048576; omega) (by omega) (by decide) (by omega) e1 vF vG HGD.out.rd (by omega) (by omega) (by decide) rfl).mono ?_
      rintro e w10 ⟨rfl, ho10, sv10, rv10, pv10, hs10, he10⟩
      obtain ⟨X, hX⟩ : ∃ X, wc.heap.size = X := ⟨_, rfl⟩
      rw [hX] at he10
      obtain ⟨r, hr⟩ : ∃ r, fullRow e1 (freeRow 0 0) rv10 pv10 = r := ⟨_, rfl⟩
      have hrr : r.s.e = e1 ∧ r.s.use = 0 ∧ r.s.full = true ∧ r.rv = rv10 ∧ r.pv = pv10 := by rw [← hr]; exact ⟨rfl, rfl, rfl, rfl, rfl⟩
      have hs10 : SlAt w10 B B (clampS 5) [r] sv10 1 (-1) := by rw [← hr]; exact hs10
      have he10 : EntAt w10 X r.s.e r.rv r.pv := by rw [← hr]; exact he10
      have HRLT : Hid ((∀ g, r.rv.ownBlock = some g → X ≤ g ∧ g < w10.heap.size) ∧ (∀ g, r.pv.ownBlock = some g → X ≤ g ∧ g < w10.heap.size)) := Lib.hid ⟨fun g hg => he10.raw.lt g hg, fun g hg => he10.peers.lt g hg⟩
      have HBE := Lib.hid (Only.below_trans HBD.out ho10 hBw SFoot.ge)
      have HSE := Lib.hid hs10
      have HEE := Lib.hid he10
      have HRR := Lib.hid hrr
      have HKE := Lib.hid (HKD.out.only ho10 (SFoot.not HKD.out (by decide)))
      have HFE := Lib.hid (HFD.out.only ho10 (SFoot.not HFD.out (by decide)))
      have HDE := Lib.hid (HED.out.slab ho10)
      have HGE := Lib.hid (HGD.out.slab ho10)
      have hXw : X ≤ w10.heap.size := by rw [← hX]; exact ho10.size
      have HXD : Hid (X = wc.heap.size) := Lib.hid hX.symm
      clear qa ld ho10 hs10 he10 hr hrr HRD HKD HED HFD HGD hX
      go_upto_region 11 with (fail)
      generalize hwb : World.alloc _ _ = w11
      have hb11 : Below w10.heap.size w10 w11 := by rw [← hwb]; exact (Below.refl _ _).alloc (Nat.le_refl _) _
      have HH11 : Hid (Blk w11 w10.heap.size 43 #[.int .i64 0, .int .i64 0]) := Lib.hid (by rw [← hwb]; exact heap_alloc_new _ _)
      obtain ⟨hb, hhb⟩ : ∃ b, w10.heap.size = b := ⟨_, rfl⟩
      have HS11 := Lib.hid (HSE.out.below hb11)
      have HE11 := Lib.hid (HEE.out.below hb11)
      have HK11 := Lib.hid (HKE.out.below hb11 HKE.out.lt)
      have HF11 := Lib.hid (HFE.out.below hb11 HFE.out.lt)
      have HD11 := Lib.hid (HDE.out.below hb11)
      have HG11 := Lib.hid (HGE.out.below hb11)
      have HB11 := Lib.hid (HBE.out.trans (hb11.mono (by have h := HXD.out; omega)))
      have hz11 := hb11.size
      rw [hhb] at HH11 ⊢
      clear hwb hb11 HSE HEE HKE HFE HDE HGE
      -- the caller turns what it gave
      obtain ⟨rn1, pn1, T1, T2, hr1, hp1, hbw, hin⟩ := HBY.out
      have hg1 := HG11.out.raw
      have hg2 := HG11.out.peers
      rw [hr1, hbw] at hg1
      rw [hp1, hin] at hg2
      obtain ⟨gF, cF, hvF, xF, _, bF1, bF2, csF, kF⟩ := row_head hg1
      obtain ⟨gG, cG, hvG, xG, _, bG1, bG2, csG, kG⟩ := row_head hg2
      subst hvF
      subst hvG
      have y32 : w11.cell? ⟨fx, 32, none⟩ = some (.slice (some ⟨gF, 0, none⟩) (rn1 + 1) cF) := ent_cell HF11.out 0
      have y40 : w11.cell? ⟨fx, 40, none⟩ = some (.slice (some ⟨gG, 0, none⟩) (pn1 + 1) cG) := ent_cell HF11.out 8
      have fF := kF.frozen 0
      have fG := kG.frozen 0
      have nFx : gF ≠ fx := Blk.ne_ kF HF11.out (by decide)
      have nGF : gG ≠ gF := Blk.ne_ kG kF (by decide)
      have nGx : gG ≠ fx := Blk.ne_ kG HF11.out (by decide)
      have rn1p : (0 : Int) < (rn1 : Int) + 1 := by omega
      have pn1p : (0 : Int) < (pn1 : Int) + 1 := by omega
      have KF := Lib.hid kF
      have KG := Lib.hid kG
      clear hg1 hg2 kF kG
      obtain ⟨b1, hb1⟩ : ∃ b, bits .or .u8 by_ 1 = b := ⟨_, rfl⟩
      obtain ⟨b2, hb2⟩ : ∃ b, bits .xor .u8 1 b1 = b := ⟨_, rfl⟩
      go_upto_region 12 with (fail)
      generalize hw12 : World.setCell _ _ _ = w12a
      have y40' : w12a.cell? ⟨fx, 40, none⟩ = some (.slice (some ⟨gG, 0, none⟩) (pn1 + 1) cG) := by rw [← hw12, World.cell?_setCell_far _ _ _ _ (show gF ≠ fx from nFx)]; exact y40
      have xG' : w12a.cell? ⟨gG, 0, none⟩ = some (.int .i64 1) := by rw [← hw12, World.cell?_setCell_far _ _ _ _ (show gF ≠ gG from Ne.symm nGF)]; exact xG
      have fG' : w12a.frozen? ⟨gG, 0, none⟩ = false := (KG.out.far (p := ⟨gF, 0, none⟩) nGF _).frozen 0 |> fun h => by rw [← hw12]; exact h
      have o12a : Only (fun k => k = gF ∨ k = gG) w11 w12a := by rw [← hw12]; exact (Only.refl _ w11).setCell_ (p := ⟨gF, 0, none⟩) (.inl (.inl rfl)) _
      have HO12a := Lib.hid o12a
      clear hw12 y32 y40 xF xG fF fG hb1 hb2 o12a
      go_upto_region 13 with (fail)
      generalize hw12 : World.setCell _ _ _ = w12
      have o12 : Only (fun k => k = gF ∨ k = gG) w11 w12 := by rw [← hw12]; exact HO12a.out.setCell_ (p := ⟨gG, 0, none⟩) (.inl (.inr rfl)) _
      have hX := HXD.out
      have hBX : B ≤ X := by omega
      have lF := HLF.out.1 gF rfl
      have lG := HLF.out.2 gG rfl
      obtain ⟨hS12, hE12⟩ := HS11.out.one_apart HE11.out hBX o12 (fun g hg hs => by have := (HRLT.out.1 g hg).1; omega) (fun g hg hs => by have := (HRLT.out.2 g hg).1; omega) (fun g hg => by
        rcases hg with hg | hg
        · exact ⟨5, _, hg.symm ▸ KF.out, by decide⟩
        · exact ⟨3, _, hg.symm ▸ KG.out, by decide⟩)
      have HS12 := Lib.hid hS12
      have HE12 := Lib.hid hE12
      have HK12 := Lib.hid (HK11.out.only o12 (fun h => by rcases h with h | h; exact Blk.ne_ HK11.out KF.out (by decide) h; exact Blk.ne_ HK11.out KG.out (by decide) h))
      have HH12 := Lib.hid (HH11.out.only o12 (fun h => by rcases h with h | h; exact Blk.ne_ HH11.out KF.out (by decide) h; exact Blk.ne_ HH11.out KG.out (by decide) h))
      have HD12 := Lib.hid (HD11.out.only o12 (fun g hg hs => by have := HLU.out.1 g hg; omega) (fun g hg hs => by have := HLU.out.2 g hg; omega))
      have HB12 := Lib.hid (Only.below_trans HB11.out o12 (by omega) (fun k hk => by omega))
      have hz12 := o12.size
      have k0 : w12.cell? ⟨hb, 0, none⟩ = some (.int .i64 0) := HH12.out.cell 0
      have k1 : w12.cell? ⟨hb, 1, none⟩ = some (.int .i64 0) := HH12.out.cell 1
      clear hw12 y40' xG' fG' o12 hS12 hE12 HS11 HE11 HK11 HH11 HD11 HB11 HF11 HG11 KF KG HO12a hX
      go_wp2_with fail
      have h1 : Calls Try.prog 15 #[.pointer (some ⟨B, 0, none⟩), .agg #[.int .i64 0, .int .i64 0]] w12 (GetPost w12 r.s.e) := sget_yes w12 B B _ [r] _ _ _ HS12.out (by show 1 ≤ 1048576; omega) 0 0 r rfl HRR.out.2.1 HRR.out.2.2.1 (by rw [HRR.out.1]; omega) (by rw [HRR.out.1]; omega)
      rw [HRR.out.1] at h1
      refine h1.mono ?_
      rintro ed w13 ⟨rv12, pv12, rfl, hbn, hea⟩
      have HSn := Lib.hid (HS12.out.below hbn)
      have HEn := Lib.hid (HE12.out.below hbn)
      have HKn := Lib.hid (HK12.out.below hbn HK12.out.lt)
      have HDn := Lib.hid (HD12.out.below hbn)
      have HHn := Lib.hid (HH12.out.below hbn HH12.out.lt)
      have HBn := Lib.hid (HB12.out.trans (hbn.mono (by omega)))
      have hzn := hbn.size
      have qs := box_sto w13 e1 rv12 pv12 hea.one
      clear h1 hbn k0 k1 HS12 HE12 HK12 HD12 HH12 HB12
      go_upto_region 14 with (fail)
      generalize hwb : storeMid _ _ _ = w14
      have hbx := box_end hwb
      have HS := Lib.hid (HSn.out.below hbx.1)
      have HE := Lib.hid (HEn.out.below hbx.1)
      have HK := Lib.hid (HKn.out.below hbx.1 HKn.out.lt)
      have HD := Lib.hid (HDn.out.below hbx.1)
      have HH := Lib.hid (HHn.out.below hbx.1 HHn.out.lt)
      have HB := Lib.hid (HBn.out.trans (hbx.1.mono (by omega)))
      have HA := Lib.hid hbx.2
      have HAE := Lib.hid (hea.below hbx.1)
      have hzb := hbx.1.size
      have qa1 : AggOk 41 w14 (.pointer (some ⟨w13.heap.size, 0, none⟩)) := aggOk_mk (blk_rangeN HA.out) (entCells_len _ _ _)
      have ld1 := loadN_eq (n := 41) (blk_rangeN HA.out) (entCells_len _ _ _)
      have qa2 : AggOk 41 w14 (.pointer (some ⟨bx, 0, none⟩)) := aggOk_mk (blk_rangeN HK.out) (entCells_len _ _ _)
      have ld2 := loadN_eq (n := 41) (blk_rangeN HK.out) (entCells_len _ _ _)
      clear qs hwb hbx HSn HEn HKn HDn HHn HBn hea
      go_wp2_with fail
      refine (sameEntry_any w14 e1 _ _ _ _ HAE.out.rd HD.out.rd (by omega) (by omega)).mono ?_
      rintro ed w15 ⟨rfl, hbn⟩
      clear qa1 ld1 qa2 ld2
      have HS15 := Lib.hid (HS.out.below hbn)
      have HE15 := Lib.hid (HE.out.below hbn)
      have HK15 := Lib.hid (HK.out.below hbn HK.out.lt)
      have HD15 := Lib.hid (HD.out.below hbn)
      have HH15 := Lib.hid (HH.out.below hbn HH.out.lt)
      have HA15 := Lib.hid (HA.out.below hbn HA.out.lt)
      have HB15 := Lib.hid (HB.out.trans (hbn.mono (by omega)))
      have hg1 := (HAE.out.below hbn).raw
      have hg2 := (HAE.out.below hbn).peers
      rw [hr1, hbw] at hg1
      rw [hp1, hin] at hg2
      obtain ⟨gA, cA, hvA, xF, _, bA1, bA2, csA, kF⟩ := row_head hg1
      obtain ⟨gP, cP, hvP, xG, _, bP1, bP2, csP, kG⟩ := row_head hg2
      subst hvA
      subst hvP
      have hz15 := hbn.size
      have y32 : w15.cell? ⟨w13.heap.size, 32, none⟩ = some (.slice (some ⟨gA, 0, none⟩) (rn1 + 1) cA) := ent_cell HA15.out 0
      have y40 : w15.cell? ⟨w13.heap.size, 40, none⟩ = some (.slice (some ⟨gP, 0, none⟩) (pn1 + 1) cP) := ent_cell HA15.out 8
      have fF := kF.frozen 0
      have fG := kG.frozen 0
      have nFx : gA ≠ w13.heap.size := Blk.ne_ kF HA15.out (by decide)
      have nGF : gP ≠ gA := Blk.ne_ kG kF (by decide)
      have nGx : gP ≠ w13.heap.size := Blk.ne_ kG HA15.out (by decide)
      have KF := Lib.hid kF
      have KG := Lib.hid kG
      clear hg1 hg2 kF kG hbn HS HE HK HD HH HB HA HAE
      obtain ⟨b1, hb1⟩ : ∃ b, bits .or .u8 by_ 1 = b := ⟨_, rfl⟩
      obtain ⟨b2, hb2⟩ : ∃ b, bits .xor .u8 1 b1 = b := ⟨_, rfl⟩
      go_upto_region 17 with (fail)
      generalize hw12 : World.setCell _ _ _ = w16a
      have y40' : w16a.cell? ⟨w13.heap.size, 40, none⟩ = some (.slice (some ⟨gP, 0, none⟩) (pn1 + 1) cP) := by rw [← hw12, World.cell?_setCell_far _ _ _ _ (show gA ≠ w13.heap.size from nFx)]; exact y40
      have xG' : w16a.cell? ⟨gP, 0, none⟩ = some (.int .i64 1) := by rw [← hw12, World.cell?_setCell_far _ _ _ _ (show gA ≠ gP from Ne.symm nGF)]; exact xG
      have fG' : w16a.frozen? ⟨gP, 0, none⟩ = false := (KG.out.far (p := ⟨gA, 0, none⟩) nGF _).frozen 0 |> fun h => by rw [← hw12]; exact h
      have o12a : Only (fun k => k = gA ∨ k = gP) w15 w16a := by rw [← hw12]; exact (Only.refl _ w15).setCell_ (p := ⟨gA, 0, none⟩) (.inl (.inl rfl)) _
      have HO12a := Lib.hid o12a
      clear hw12 y32 y40 xF xG fF fG hb1 hb2 o12a
      go_upto_region 18 with (fail)
      generalize hw12 : World.setCell _ _ _ = w16
      have o12 : Only (fun k => k = gA ∨ k = gP) w15 w16 := by rw [← hw12]; exact HO12a.out.setCell_ (p := ⟨gP, 0, none⟩) (.inl (.inr rfl)) _
      obtain ⟨hS12, hE12⟩ := HS15.out.one_apart HE15.out hBX o12 (fun g hg hs => by have := (HRLT.out.1 g hg).2; omega) (fun g hg hs => by have := (HRLT.out.2 g hg).2; omega) (fun g hg => by
        rcases hg with hg | hg
        · exact ⟨5, _, hg.symm ▸ KF.out, by decide⟩
        · exact ⟨3, _, hg.symm ▸ KG.out, by decide⟩)
      have HS16 := Lib.hid hS12
      have HE16 := Lib.hid hE12
      have HK16 := Lib.hid (HK15.out.only o12 (fun h => by rcases h with h | h; exact Blk.ne_ HK15.out KF.out (by decide) h; exact Blk.ne_ HK15.out KG.out (by decide) h))
      have HH16 := Lib.hid (HH15.out.only o12 (fun h => by rcases h with h | h; exact Blk.ne_ HH15.out KF.out (by decide) h; exact Blk.ne_ HH15.out KG.out (by decide) h))
      have HD16 := Lib.hid (HD15.out.only o12 (fun g hg hs => by have := HLU.out.1 g hg; omega) (fun g hg hs => by have := HLU.out.2 g hg; omega))
      have HB16 := Lib.hid (Only.below_trans HB15.out o12 (by omega) (fun k hk => by omega))
      have hz16 := o12.size
      have k0 : w16.cell? ⟨hb, 0, none⟩ = some (.int .i64 0) := HH16.out.cell 0
      have k1 : w16.cell? ⟨hb, 1, none⟩ = some (.int .i64 0) := HH16.out.cell 1
      clear hw12 y40' xG' fG' o12 hS12 hE12 HS15 HE15 HK15 HH15 HD15 HB15 KF KG HO12a
      go_wp2_with fail
      have h1 : Calls Try.prog 15 #[.pointer (some ⟨B, 0, none⟩), .agg #[.int .i64 0, .int .i64 0]] w16 (GetPost w16 r.s.e) := sget_yes w16 B B _ [r] _ _ _ HS16.out (by show 1 ≤ 1048576; omega) 0 0 r rfl HRR.out.2.1 HRR.out.2.2.1 (by rw [HRR.out.1]; omega) (by rw [HRR.out.1]; omega)
      rw [HRR.out.1] at h1
      refine h1.mono ?_
      rintro ed w17 ⟨rv16, pv16, rfl, hbn, hea⟩
      have HSn := Lib.hid (HS16.out.below hbn)
      have HEn := Lib.hid (HE16.out.below hbn)
      have HKn := Lib.hid (HK16.out.below hbn HK16.out.lt)
      have HDn := Lib.hid (HD16.out.below hbn)
      have HHn := Lib.hid (HH16.out.below hbn HH16.out.lt)
      have HBn := Lib.hid (HB16.out.trans (hbn.mono (by omega)))
      have hzn := hbn.size
      have qs := box_sto w17 e1 rv16 pv16 hea.one
      clear h1 hbn k0 k1 HS16 HE16 HK16 HD16 HH16 HB16
      go_upto_region 19 with (fail)
      generalize hwb : storeMid _ _ _ = w18
      have hbx := box_end hwb
      have HS := Lib.hid (HSn.out.below hbx.1)
      have HE := Lib.hid (HEn.out.below hbx.1)
      have HK := Lib.hid (HKn.out.below hbx.1 HKn.out.lt)
      have HD := Lib.hid (HDn.out.below hbx.1)
      have HH := Lib.hid (HHn.out.below hbx.1 HHn.out.lt)
      have HB := Lib.hid (HBn.out.trans (hbx.1.mono (by omega)))
      have HA := Lib.hid hbx.2
      have HAE := Lib.hid (hea.below hbx.1)
      have hzb := hbx.1.size
      have qa1 : AggOk 41 w18 (.pointer (some ⟨w17.heap.size, 0, none⟩)) := aggOk_mk (blk_rangeN HA.out) (entCells_len _ _ _)
      have ld1 := loadN_eq (n := 41) (blk_rangeN HA.out) (entCells_len _ _ _)
      have qa2 : AggOk 41 w18 (.pointer (some ⟨bx, 0, none⟩)) := aggOk_mk (blk_rangeN HK.out) (entCells_len _ _ _)
      have ld2 := loadN_eq (n := 41) (blk_rangeN HK.out) (entCells_len _ _ _)
      clear qs hwb hbx HSn HEn HKn HDn HHn HBn hea
      go_wp2_with fail
      refine (sameEntry_any w18 e1 _ _ _ _ HAE.out.rd HD.out.rd (by omega) (by omega)).mono ?_
      rintro ed w19 ⟨rfl, hbn⟩
      clear qa1 ld1 qa2 ld2
      have HB19 := Lib.hid (HB.out.trans (hbn.mono (by omega)))
      have hz19 := hbn.size
      clear hbn
      go_wp2_with fail
      refine (known_any _).mono ?_
      rintro ed w20 ⟨rfl, hbn⟩
      have HB20 := Lib.hid ((HB0.out.trans (HB19.out.mono hwB)).trans (hbn.mono (by omega)))
      clear hbn
      go_wp2_with fail
      go_ret
      exact ⟨rfl, HB20.out⟩
end Go.Proofs.Ytnihkjhejjeepaa
