/- SlabStale: the walk. -/
import Derived.Test.YtnihkjhejjeepaaSlbSs
namespace Go.Proofs.Ytnihkjhejjeepaa
open Go.RowKit
set_option linter.unusedVariables false
set_option linter.unusedSimpArgs false
open ShaW Sha

def SsRel (w0 : World) (B C D n : Nat) (lv dv : Value) (W : World) : Prop := ∃ m live dead N, StSt w0 B C D n N m live dead lv dv W ∧ PlSt m live dead N ∧ N ≤ n + 3
set_option maxRecDepth 100000 in
set_option maxHeartbeats 16000000 in
attribute [local go_sem ↓] wp_store_ent in
theorem slabStale_any (w : World) (A : Option Addr) (n c : Nat) (f : Nat → Int) (h : IntsAt w w.heap.size A n c f) :
    Calls Try.prog 5 #[.slice A n c] w fun e w' => e = .returned (.bool true) ∧ Below w.heap.size w w' := by
  obtain ⟨i0, hi0, hz0, hz1, hz2⟩ := info_parts hdl_info
  have HI0 := Lib.hid hi0
  have HZ0 := Lib.hid hz0
  clear hi0 hz0
  have hnc : n ≤ 9223372036854775807 := Nat.le_trans h.1 h.2.1
  have HI := Lib.hid h
  clear h
  by_cases hbig : 160 < n
  · have hb : decide (160 < (n : Int)) = true := by simp; omega
    go_enter Try.func5, Try.ntmps5
    go_wp2_with fail
    refine (long_any w A n c _ _ rfl hnc true hb).mono ?_
    rintro e w1 ⟨rfl, rfl⟩
    go_wp2_with fail
    refine (known_any _).mono ?_
    rintro e w1 ⟨rfl, hb1⟩
    have HB := Lib.hid (((Below.refl w.heap.size w).alloc (Nat.le_refl _) _).trans (hb1.mono (by simp)))
    clear hb1
    go_wp2_with fail
    go_ret
    exact ⟨rfl, HB.out⟩
  have hb : decide (160 < (n : Int)) = false := by simp; omega
  have hn : n ≤ 160 := by omega
  clear hbig
  go_enter Try.func5, Try.ntmps5
  go_wp2_with fail
  refine (long_any w A n c _ _ rfl hnc false hb).mono ?_
  rintro e w1 ⟨rfl, rfl⟩
  go_wp2_with fail
  generalize hwa : World.alloc w _ = wa
  have hb0 : Below w.heap.size w wa := by rw [← hwa]; exact (Below.refl _ _).alloc (Nat.le_refl _) _
  obtain ⟨B, hB⟩ : ∃ B, wa.heap.size = B := ⟨_, rfl⟩
  have hI : IntsAt wa B A n c f := by rw [← hB]; exact (HI.out.below hb0).more hb0.size
  have hwB : w.heap.size ≤ B := by rw [← hB]; exact hb0.size
  have HB0 := Lib.hid hb0
  clear hwa hb0 hb HI
  refine (from_any wa B n c A f hI (by omega)).mono ?_
  rintro e w2 ⟨rfl, hb2, hs2, hn2⟩
  rw [hB] at hn2 hb2 ⊢
  have HN2 := Lib.hid hn2
  have HB2 := Lib.hid hb2
  have hz2' := hb2.size
  clear hI hn2 hb2
  go_wp2_with fail
  refine (rnew_any w2 B (by omega) 4 ⟨by omega, by omega⟩).mono ?_
  rintro e w3 ⟨rfl, hb3, hs3, hr3⟩
  obtain ⟨C, hC⟩ : ∃ C, w2.heap.size = C := ⟨_, rfl⟩
  have HR : Hid (SsRel wa B C B n (.slice none 0 0) (.slice none 0 0) w3) := ⟨_, [], [], 0, ⟨HB2.out.trans (hb3.mono (by omega)), by omega, HN2.out.below_ (by omega) hb3, by rw [← hC]; exact hr3, World.ownsRow_nil _ _ _ _, World.ownsRow_nil _ _ _ _, fun g hg => by cases hg⟩, plSt0, by omega⟩
  rw [hC]
  clear hb3 hr3 hs3 hs2 hz2' hC HN2 HB2
  go_wp2_with fail
  go_loopw [5, 6] (fun lv dv wr => SsRel wa B C B n lv dv wr) (fun _ _ wr => n - numC wr B)
  case atStart => exact HR.out
  case round =>
    obtain ⟨m, live, dead, N, hst, hpl, hN⟩ := hrel
    obtain ⟨ll, hll⟩ : ∃ l, live.length = l := ⟨_, rfl⟩
    obtain ⟨dl, hdl⟩ : ∃ l, dead.length = l := ⟨_, rfl⟩
    have hlv : ∃ Al cl, u5 = .slice Al ll cl := by rw [← hll]; exact own_form hst.lr
    have hdv : ∃ Ad cd, u6 = .slice Ad dl cd := by rw [← hdl]; exact own_form hst.dr
    obtain ⟨Al, cl, rfl⟩ := hlv
    obtain ⟨Ad, cd, rfl⟩ := hdv
    have hll2 := hpl.len
    have hdl2 := hpl.dl
    have x1 : wr.cell? ⟨B, 1, none⟩ = some (.int .i64 (N : Int)) := by obtain ⟨_, _, _, _, hh, _⟩ := hst.num; exact hh.cell 1
    have HS := Lib.hid hst
    have HP := Lib.hid hpl
    have HLL := Lib.hid hll
    have HDL := Lib.hid hdl
    have hNC := Lib.hid hst.num.numC
    clear hst hpl hll hdl HR
    rcases Nat.lt_or_ge N n with hlt | hge
    · have t1 : (N : Int) < n := by omega
      go_wp2_with fail
      refine (next_any wr B B n N 5 HS.out.num (by omega) (by omega) (by omega)).mono ?_
      rintro e w2 ⟨q, hq, rfl, ho2, hsz2, hn2⟩
      have HS2 := Lib.hid (HS.out.next ho2 hn2)
      clear ho2 hn2 hsz2 x1 HS
      go_wp2_with fail
      refine (st_add wa B C B n N m live dead _ _ w2 HS2.out HP.out (by omega) (q : Int)).mono ?_
      rintro e w3 (⟨m3, rfl, hs3, hp3⟩ | ⟨m3, s3, u3, rfl, hs3, hp3⟩)
      · have HP3 := Lib.hid hp3
        have HS3 := Lib.hid hs3
        clear hs3 hp3
        go_upto_region 10 with (fail)
        generalize hwb : World.alloc _ _ = w4
        have hb4 : Below w3.heap.size w3 w4 := by rw [← hwb]; exact (Below.refl _ _).alloc (Nat.le_refl _) _
        have HS4 := Lib.hid (HS3.out.below hb4)
        have HP4 := HP3
        clear hwb hb4 HS3 HP3
        go_upto_region 13 with (fail)
        have hllb : (ll) ≤ 300 := by have h1 := HLL.out; have h2 := HP4.out.len; omega
        rcases Nat.eq_zero_or_pos (ll) with h0 | h0
        · have H0 := Lib.hid h0
          clear h0
          have t2 : ¬ (((ll : Nat) : Int)) > 0 := by have := H0.out; omega
          have hleW := HS4.out.le
          have hdW := HP4.out.dl
          have hdlW := HDL.out
          go_wp2_with fail
          go_loopw [82] (fun i wr => ∃ y : Nat, y ≤ dl ∧ i = .int .i64 (y : Int) ∧ Below w4.heap.size w4 wr) (fun i _ => dl - (intOf i).toNat)
          case atStart => exact ⟨0, by omega, rfl, Below.refl _ _⟩
          case round =>
            obtain ⟨y, hy, rfl, hby⟩ := hrel
            have HSY := Lib.hid (HS4.out.below hby)
            have HBY := Lib.hid hby
            clear hby
            rcases Nat.lt_or_ge y (dl) with hly | hgy
            · have t21 : (y : Int) < ((dl : Nat) : Int) := by omega
              have t22 : (0 : Int) ≤ y := by omega
              obtain ⟨xd, hxd⟩ : ∃ xx, (dead)[y]? = some xx := ⟨_, List.getElem?_eq_getElem (by omega)⟩
              have hdr := HSY.out.dr
              rw [← hdlW] at hdr
              obtain ⟨gd, hAd, k0, k1, hgl⟩ := hdls_cell hdr hxd
              subst hAd
              have HXD := Lib.hid (List.mem_of_getElem? hxd)
              clear hdr hxd
              go_upto_region 22 with (fail)
              generalize hwb : World.alloc _ _ = wz
              have hbz : Below wr.heap.size wr wz := by rw [← hwb]; exact (Below.refl _ _).alloc (Nat.le_refl _) _
              have hkz : Blk wz wr.heap.size 43 #[.int .i64 (xd.1 : Int), .int .i64 (xd.2 : Int)] := by rw [← hwb]; exact heap_alloc_new _ _
              have HSZ := Lib.hid (HSY.out.below hbz)
              have k2 : wz.cell? ⟨wr.heap.size, 0, none⟩ = some (.int .i64 (xd.1 : Int)) := hkz.cell 0
              have k3 : wz.cell? ⟨wr.heap.size, 1, none⟩ = some (.int .i64 (xd.2 : Int)) := hkz.cell 1
              have HBZ := Lib.hid (HBY.out.trans (hbz.mono HBY.out.size))
              clear k0 k1 hwb hbz hkz
              go_wp2_with fail
              refine (st_get wa B C B n _ _ _ _ _ _ wz HSZ.out HP4.out (by omega) xd HXD.out).mono ?_
              rintro e wg ⟨rfl, hbg⟩
              have qs := box_sto wg ent0 (.slice none 0 0) (.slice none 0 0) (entCells_one rfl rfl)
              have HBG := Lib.hid (HBZ.out.trans (hbg.mono HBZ.out.size))
              clear hbg k2 k3
              go_upto_region 23 with (fail)
              generalize hwb : storeMid _ _ _ = wh
              have hbx := box_end hwb
              have HBH := Lib.hid (HBG.out.trans (hbx.1.mono HBG.out.size))
              clear qs hwb hbx
              go_wp2_with fail
              go_roundw
              case rel => exact ⟨y + 1, by omega, by go_num, HBH.out⟩
              case measure => simp [intOf]; omega
            · obtain rfl : dl = y := by omega
              have t21 : ¬ (((dl : Nat) : Int)) < ((dl : Nat) : Int) := by omega
              go_wp2_with fail
              go_roundw
              case rel => exact ⟨_, _, dead, N + 1, HSY.out, HP4.out, by omega⟩
              case measure =>
                show n - numC _ B < n - numC _ B
                rw [HSY.out.num.numC, hNC.out]
                omega
        · have t2 : (((ll : Nat) : Int)) > 0 := by omega
          go_wp2_with fail
          refine (next_any w4 B B n (N + 1) 2 HS4.out.num (by omega) (by omega) (by omega)).mono ?_
          rintro e w5 ⟨q2, hq2, rfl, ho5, hsz5, hn5⟩
          have HS5 := Lib.hid (HS4.out.next ho5 hn5)
          have HP5 := Lib.hid (HP4.out.more (Nat.le_succ (N + 1)))
          clear ho5 hn5 hsz5
          rcases Nat.eq_zero_or_pos q2 with hq0 | hq0
          · subst hq0
            go_wp2_with fail
            refine (next_any w5 B B n (N + 2) (ll) HS5.out.num (by omega) (by omega) (by omega)).mono ?_
            rintro e w6 ⟨q4, hq4, rfl, ho6, hsz6, hn6⟩
            have HS6 := Lib.hid (HS5.out.next ho6 hn6)
            clear ho6 hn6 hsz6
            obtain ⟨x, hx⟩ : ∃ x, (live)[q4]? = some x := ⟨_, List.getElem?_eq_getElem (by rw [HLL.out]; omega)⟩
            have hlr := HS6.out.lr
            rw [← HLL.out] at hlr
            obtain ⟨gl, hAl, k0, k1, hgl⟩ := hdls_cell hlr hx
            have hAl0 := hAl
            subst hAl
            have t4 : (q4 : Int) < ((ll : Nat) : Int) := by omega
            have t5 : (0 : Int) ≤ q4 := by omega
            have HX := Lib.hid hx
            clear hlr hx
            go_wp2_with fail
            refine (st_rem wa B C B n (N + 2) _ _ _ _ _ w6 HS6.out HP5.out (by omega) q4 x HX.out).mono ?_
            rintro e w7 ⟨rfl, hs7, hp7⟩
            have hlr := hs7.lr
            rw [← HLL.out] at hlr
            obtain ⟨gl', hAl, k0', k1', hgl'⟩ := hdls_cell hlr HX.out
            injection hAl with hAl
            injection hAl with hAl
            subst hAl
            have HS7 := Lib.hid hs7
            have HP7 := Lib.hid hp7
            clear k0 k1 hlr hs7 hp7
            have HRW : Hid ((w7.alloc (.cells #[.int .i64 (x.1 : Int), .int .i64 (x.2 : Int)] 43)).ownsRow B 43 2 (.slice Ad dl cd) dl (hdlsV dead)) := by
              have h1 := (HS7.out.below ((Below.refl w7.heap.size w7).alloc (Nat.le_refl _) (.cells #[.int .i64 (x.1 : Int), .int .i64 (x.2 : Int)] 43))).dr
              rw [HDL.out] at h1
              exact h1
            have HRX := Lib.hid (hdl_reads w7 x)
            have hBw : B ≤ w7.heap.size := HS7.out.le
            have hdl3 : dl ≤ 300 := by have := HDL.out; omega
            go_upto_region 17 with (fail)
            go_wp2_with (first
              | (refine wpList_buildSlice rfl 50 43 1 _ rfl #[.int .i64 (x.1 : Int), .int .i64 (x.2 : Int)] i0 _ Try.underlying50 HI0.out HZ0.out (by rw [hz1]; omega) (by rw [hz1]; omega) (by simp only [List.map_toArray, List.map_cons, List.map_nil]; exact hdl_fill _ _ i0 hz1) ?_)
              | (at_builtin
                 refine wpList_append_any _ rfl (.tmp 63) (.tmp 68) _ rfl B 43 i0 _ 2 16 Try.underlying50 HI0.out HZ0.out hz1 hz2 rfl (by omega) (.slice Ad dl cd) dl _ (by rfl)
                   HRW.out _ _ 1 1 _ (by rfl) HRX.out (hdlsV_oneCell _) (by unfold maxLen; omega) (by omega) (by rw [World.size_alloc]; omega) ?_
                 intro v8 w8 hr8 hg8 hat8
                 rw [← hdlsV_append] at hr8
                 have hd8 : (dead ++ [x]).length = dl + 1 := by rw [List.length_append, HDL.out]; rfl
                 obtain ⟨d8, hd8'⟩ : ∃ d, dl + 1 = d := ⟨_, rfl⟩
                 rw [hd8'] at hr8 hd8
                 obtain ⟨A8, c8, rfl⟩ := own_form hr8
                 have hs8 := (HS7.out.below ((Below.refl w7.heap.size w7).alloc (Nat.le_refl _) (.cells #[.int .i64 (x.1 : Int), .int .i64 (x.2 : Int)] 43))).dead (dead' := dead ++ [x]) hg8 (by rw [hd8]; exact hr8) hat8
                 have HS8 := Lib.hid hs8
                 have HD8 := Lib.hid hd8
                 clear hr8 hg8 hat8 hs8 hd8 hd8'))
            go_upto_region 18 with (fail)
            have hlr := HS8.out.lr
            rw [HLL.out] at hlr
            obtain ⟨hcc, hc63⟩ := own_cap hlr
            have hrd := Reads.of_own hlr
            have hz8 : w8.heap.size ≤ w8.heap.size := Nat.le_refl _
            have HR1 : Hid (∀ W, Below w8.heap.size w8 W → Reads W w8.heap.size 2 (some ⟨gl, 0, none⟩) q4 (hdlsV ((live).take q4))) := fun W hW => hreads_take (by rw [HLL.out]; exact hrd.below hW) (by rw [HLL.out]; omega)
            have HR2 : Hid (cl ≠ q4 + 1 → ∀ W, Below w8.heap.size w8 W → Reads W w8.heap.size 2 (some ⟨gl, (q4 + 1) * 2, none⟩) (ll - (q4 + 1)) (hdlsV ((live).drop (q4 + 1)))) := fun hne W hW => by
              have := hreads_drop (c := cl) (i := q4 + 1) (L := live) (g := gl) (o := 0) (w := W) (B := w8.heap.size) (by rw [HLL.out]; exact hrd.below hW) (by rw [HLL.out]; omega) (by rw [HLL.out]; exact hcc) hne
              rw [HLL.out, Nat.zero_add] at this
              exact this
            have hee : Hid (cl = q4 + 1 → (live).drop (q4 + 1) = []) := fun e => List.drop_of_length_le (by rw [HLL.out]; omega)
            have HE0 := Lib.hid (hempty_own w8)
            have HBL : Hid (Below w8.heap.size w8 (w8.alloc (.cells #[] 43)).drew) := belowDrewR ((Below.refl _ _).alloc (Nat.le_refl _) _)
            have g1 : IntKind.i64.wrap ((q4 : Int) + 1) = (q4 : Int) + 1 := IntWalk.i64_in _ (by omega)
            have p0 : (0 : Int) ≤ (q4 : Int) + 1 := by omega
            have p1 : ((q4 : Int) + 1).toNat = q4 + 1 := by omega
            have hlk : (lack (live) q4).length = ll - 1 := by rw [lack_len (by rw [HLL.out]; omega), HLL.out]
            have HLK := Lib.hid hlk
            clear hrd hlr hlk k0' k1'
            by_cases hne : cl ≠ q4 + 1
            · have HNE := Lib.hid hne
              have t6 : (q4 : Int) ≤ cl := by omega
              have t7 : (q4 : Int) + 1 ≤ ll := by omega
              have t8 : (ll : Int) ≤ cl := by omega
              clear hne
              have hne := HNE.out
              refine wp_region_noPanic ?_
              refine wp_region_held_drew (S := fun _ => True) (by kernel_rfl) trivial (fun hHeld => ?_)
              refine wpAnyH_take (i := 1) (oi := ⟨some 71, _, _, _, _, _⟩) (v := ?_) rfl (by kernel_rfl) (by kernel_rfl) (by kernel_rfl) (fun _ _ _ h => h) (Or.inl ⟨by kernel_rfl, ?_⟩) hHeld ?_
              rotate_left
              · intro w hSw
                (try dsimp only at hSw)
                go_simp
                all_goals (with_reducible rfl)
              conv => arg 8; simp only [Act.put, List.setIfInBounds_toArray, List.set_cons_zero, List.set_cons_succ]
              refine wpAnyH_take (i := 2) (oi := ⟨some 72, _, _, _, _, _⟩) (v := ?_) rfl (by kernel_rfl) (by kernel_rfl) (by kernel_rfl) (fun _ _ _ h => h) (Or.inl ⟨by kernel_rfl, ?_⟩) hHeld ?_
              rotate_left
              · intro w hSw
                (try dsimp only at hSw)
                go_simp
                all_goals (with_reducible rfl)
              conv => arg 8; simp only [Act.put, List.setIfInBounds_toArray, List.set_cons_zero, List.set_cons_succ]
              refine wpAnyH_take (i := 3) (oi := ⟨some 73, _, _, _, _, _⟩) (v := ?_) rfl (by kernel_rfl) (by kernel_rfl) (by kernel_rfl) (fun _ _ _ h => h) (Or.inl ⟨by kernel_rfl, ?_⟩) hHeld ?_
              rotate_left
              · intro w hSw
                (try dsimp only at hSw)
                go_simp
                all_goals (with_reducible rfl)
              conv => arg 8; simp only [Act.put, List.setIfInBounds_toArray, List.set_cons_zero, List.set_cons_succ]
              refine wpAnyH_take (i := 5) (oi := ⟨some 75, _, _, _, _, _⟩) (v := ?_) rfl (by kernel_rfl) (by kernel_rfl) (by kernel_rfl) (fun _ _ _ h => h) (Or.inl ⟨by kernel_rfl, ?_⟩) hHeld ?_
              rotate_left
              · intro w hSw
                (try dsimp only at hSw)
                go_simp
                all_goals (with_reducible rfl)
              conv => arg 8; simp only [Act.put, List.setIfInBounds_toArray, List.set_cons_zero, List.set_cons_succ]
              refine wpAnyH_take (i := 6) (oi := ⟨some 76, _, _, _, _, _⟩) (v := ?_) rfl (by kernel_rfl) (by kernel_rfl) (by kernel_rfl) (fun _ _ _ h => h) (Or.inl ⟨by kernel_rfl, ?_⟩) hHeld ?_
              rotate_left
              · intro w hSw
                (try dsimp only at hSw)
                go_simp
                all_goals (with_reducible rfl)
              conv => arg 8; simp only [Act.put, List.setIfInBounds_toArray, List.set_cons_zero, List.set_cons_succ]
              refine wpAnyH_take (i := 7) (oi := ⟨some 77, _, _, _, _, _⟩) (v := ?_) rfl (by kernel_rfl) (by kernel_rfl) (by kernel_rfl) (fun _ _ _ h => h) (Or.inl ⟨by kernel_rfl, ?_⟩) hHeld ?_
              rotate_left
              · intro w hSw
                (try dsimp only at hSw)
                go_simp
                all_goals (with_reducible rfl)
              conv => arg 8; simp only [Act.put, List.setIfInBounds_toArray, List.set_cons_zero, List.set_cons_succ]
              refine wpAnyH_take (i := 8) (oi := ⟨some 78, _, _, _, _, _⟩) (v := ?_) rfl (by kernel_rfl) (by kernel_rfl) (by kernel_rfl) (fun _ _ _ h => h) (Or.inl ⟨by kernel_rfl, ?_⟩) hHeld ?_
              rotate_left
              · intro w hSw
                (try dsimp only at hSw)
                go_simp
                all_goals (with_reducible rfl)
              conv => arg 8; simp only [Act.put, List.setIfInBounds_toArray, List.set_cons_zero, List.set_cons_succ]
              refine wpAnyH_ready (rs := [0]) (by kernel_rfl) (by simp) ?_
              refine AllReadyH.cons (o := ⟨some 70, _, _, _, _, _⟩) rfl (fun K hK => ?_) AllReadyH.nil
              go_simp
              refine hK.out _ _ trivial (fun hHeld => ?_)
              clear hK K
              conv => arg 8; simp only [Act.put, List.setIfInBounds_toArray, List.set_cons_zero, List.set_cons_succ]
              refine wpAnyH_ready (rs := [4]) (by kernel_rfl) (by simp) ?_
              refine AllReadyH.cons (o := ⟨some 74, _, _, _, _, _⟩) rfl (fun K hK => ?_) AllReadyH.nil
              refine step_append_any _ (by rfl) (.tmp 70) (.tmp 73) _ (by rfl) w8.heap.size 43 i0 _ 2 16 Try.underlying50 HI0.out HZ0.out hz1 hz2 rfl (by omega) (.slice (some ⟨w8.heap.size, 0, none⟩) 0 0) (0) ([]) (by rfl) HE0.out.drew _ (some ⟨gl, 0, none⟩) (q4) _ (hdlsV ((live).take q4)) (by rfl) (HR1.out _ HBL.out) (hdlsV_oneCell _) (by unfold maxLen; omega) (by omega) (HBL.out).size ?_
              intro v9 w9 ho_w9 hg_w9 hat_w9
              rw [Nat.zero_add, List.nil_append] at ho_w9
              obtain ⟨A9, c9, rfl⟩ := own_form ho_w9
              have hb_w9 : Below w8.heap.size w8 w9 := (HBL.out).grown hg_w9 (HBL.out).size (fun g e => ((HE0.out.drew).lt g e).1)
              have HB_w9 := Lib.hid hb_w9
              have HO_w9 := Lib.hid ho_w9
              clear ho_w9 hg_w9 hat_w9 hb_w9
              refine hK.out _ _ trivial (fun hHeld => ?_)
              clear hK K
              conv => arg 8; simp only [Act.put, List.setIfInBounds_toArray, List.set_cons_zero, List.set_cons_succ]
              refine wpAnyH_ready (rs := [9]) (by kernel_rfl) (by simp) ?_
              refine AllReadyH.cons (o := ⟨some 79, _, _, _, _, _⟩) rfl (fun K hK => ?_) AllReadyH.nil
              refine step_append_any _ (by rfl) (.tmp 74) (.tmp 78) _ (by rfl) w8.heap.size 43 i0 _ 2 16 Try.underlying50 HI0.out HZ0.out hz1 hz2 rfl (by omega) (.slice A9 q4 c9) (q4) (hdlsV ((live).take q4)) (by rfl) HO_w9.out _ (some ⟨gl, (q4 + 1) * 2, none⟩) (ll - (q4 + 1)) _ (hdlsV ((live).drop (q4 + 1))) (by rfl) (HR2.out hne _ HB_w9.out) (hdlsV_oneCell _) (by unfold maxLen; omega) (by omega) (HB_w9.out).size ?_
              intro v10 w10 ho_w10 hg_w10 hat_w10
              obtain ⟨l10, hl10⟩ : ∃ l, q4 + (ll - (q4 + 1)) = l := ⟨_, rfl⟩
              rw [hl10] at ho_w10
              have HL10 := Lib.hid hl10
              clear hl10
              obtain ⟨A10, c10, rfl⟩ := own_form ho_w10
              have hb_w10 : Below w8.heap.size w8 w10 := (HB_w9.out).grown hg_w10 (HB_w9.out).size (fun g e => ((HO_w9.out).lt g e).1)
              have HB_w10 := Lib.hid hb_w10
              have HO_w10 := Lib.hid ho_w10
              clear ho_w10 hg_w10 hat_w10 hb_w10
              refine hK.out _ _ trivial (fun hHeld => ?_)
              clear hK K
              conv => arg 8; simp only [Act.put, List.setIfInBounds_toArray, List.set_cons_zero, List.set_cons_succ]
              refine wpAnyH_take (i := 10) (oi := ⟨some 5, _, _, _, _, _⟩) (v := ?_) rfl (by kernel_rfl) (by kernel_rfl) (by kernel_rfl) (fun _ _ _ h => h) (Or.inl ⟨by kernel_rfl, ?_⟩) hHeld ?_
              rotate_left
              · intro w hSw
                (try dsimp only at hSw)
                go_simp
                all_goals (with_reducible rfl)
              conv => arg 8; simp only [Act.put, List.setIfInBounds_toArray, List.set_cons_zero, List.set_cons_succ]
              refine wpAnyH_done (by kernel_rfl) ?_ _
              refine NoPanic.normal ?_
              have ho : w10.ownsRow w8.heap.size 43 2 (.slice A10 l10 c10) (lack (live) q4).length (hdlsV (lack (live) q4)) := by
                rw [hdlsV_lack, show (lack (live) q4).length = l10 by rw [HLK.out, ← HL10.out]; omega]
                exact HO_w10.out
              have HS10 := Lib.hid (HS8.out.fresh (live' := lack (live) q4) HB_w10.out ho)
              clear hne hHeld ho
              have hleW := HS10.out.le
              have hdW := HP7.out.dl
              have hdlW := HD8.out
              go_wp2_with fail
              go_loopw [82] (fun i wr => ∃ y : Nat, y ≤ d8 ∧ i = .int .i64 (y : Int) ∧ Below w10.heap.size w10 wr) (fun i _ => d8 - (intOf i).toNat)
              case atStart => exact ⟨0, by omega, rfl, Below.refl _ _⟩
              case round =>
                obtain ⟨y, hy, rfl, hby⟩ := hrel
                have HSY := Lib.hid (HS10.out.below hby)
                have HBY := Lib.hid hby
                clear hby
                rcases Nat.lt_or_ge y (d8) with hly | hgy
                · have t21 : (y : Int) < ((d8 : Nat) : Int) := by omega
                  have t22 : (0 : Int) ≤ y := by omega
                  obtain ⟨xd, hxd⟩ : ∃ xx, ((dead ++ [x]))[y]? = some xx := ⟨_, List.getElem?_eq_getElem (by omega)⟩
                  have hdr := HSY.out.dr
                  rw [← hdlW] at hdr
                  obtain ⟨gd, hAd, k0, k1, hgl⟩ := hdls_cell hdr hxd
                  subst hAd
                  have HXD := Lib.hid (List.mem_of_getElem? hxd)
                  clear hdr hxd
                  go_upto_region 22 with (fail)
                  generalize hwb : World.alloc _ _ = wz
                  have hbz : Below wr.heap.size wr wz := by rw [← hwb]; exact (Below.refl _ _).alloc (Nat.le_refl _) _
                  have hkz : Blk wz wr.heap.size 43 #[.int .i64 (xd.1 : Int), .int .i64 (xd.2 : Int)] := by rw [← hwb]; exact heap_alloc_new _ _
                  have HSZ := Lib.hid (HSY.out.below hbz)
                  have k2 : wz.cell? ⟨wr.heap.size, 0, none⟩ = some (.int .i64 (xd.1 : Int)) := hkz.cell 0
                  have k3 : wz.cell? ⟨wr.heap.size, 1, none⟩ = some (.int .i64 (xd.2 : Int)) := hkz.cell 1
                  have HBZ := Lib.hid (HBY.out.trans (hbz.mono HBY.out.size))
                  clear k0 k1 hwb hbz hkz
                  go_wp2_with fail
                  refine (st_get wa B C B n _ _ _ _ _ _ wz HSZ.out HP7.out (by omega) xd HXD.out).mono ?_
                  rintro e wg ⟨rfl, hbg⟩
                  have qs := box_sto wg ent0 (.slice none 0 0) (.slice none 0 0) (entCells_one rfl rfl)
                  have HBG := Lib.hid (HBZ.out.trans (hbg.mono HBZ.out.size))
                  clear hbg k2 k3
                  go_upto_region 23 with (fail)
                  generalize hwb : storeMid _ _ _ = wh
                  have hbx := box_end hwb
                  have HBH := Lib.hid (HBG.out.trans (hbx.1.mono HBG.out.size))
                  clear qs hwb hbx
                  go_wp2_with fail
                  go_roundw
                  case rel => exact ⟨y + 1, by omega, by go_num, HBH.out⟩
                  case measure => simp [intOf]; omega
                · obtain rfl : d8 = y := by omega
                  have t21 : ¬ (((d8 : Nat) : Int)) < ((d8 : Nat) : Int) := by omega
                  go_wp2_with fail
                  go_roundw
                  case rel => exact ⟨_, _, (dead ++ [x]), N + 2 + 1, HSY.out, HP7.out, by omega⟩
                  case measure =>
                    show n - numC _ B < n - numC _ B
                    rw [HSY.out.num.numC, hNC.out]
                    omega
            · obtain rfl : cl = q4 + 1 := by omega
              obtain rfl : ll = q4 + 1 := by omega
              have t6 : (q4 : Int) ≤ (q4 : Int) + 1 := by omega
              have t7 : (q4 : Int) < (q4 : Int) + 1 := by omega
              clear hne
              refine wp_region_noPanic ?_
              refine wp_region_held_drew (S := fun _ => True) (by kernel_rfl) trivial (fun hHeld => ?_)
              refine wpAnyH_take (i := 1) (oi := ⟨some 71, _, _, _, _, _⟩) (v := ?_) rfl (by kernel_rfl) (by kernel_rfl) (by kernel_rfl) (fun _ _ _ h => h) (Or.inl ⟨by kernel_rfl, ?_⟩) hHeld ?_
              rotate_left
              · intro w hSw
                (try dsimp only at hSw)
                go_simp
                all_goals (with_reducible rfl)
              conv => arg 8; simp only [Act.put, List.setIfInBounds_toArray, List.set_cons_zero, List.set_cons_succ]
              refine wpAnyH_take (i := 2) (oi := ⟨some 72, _, _, _, _, _⟩) (v := ?_) rfl (by kernel_rfl) (by kernel_rfl) (by kernel_rfl) (fun _ _ _ h => h) (Or.inl ⟨by kernel_rfl, ?_⟩) hHeld ?_
              rotate_left
              · intro w hSw
                (try dsimp only at hSw)
                go_simp
                all_goals (with_reducible rfl)
              conv => arg 8; simp only [Act.put, List.setIfInBounds_toArray, List.set_cons_zero, List.set_cons_succ]
              refine wpAnyH_take (i := 3) (oi := ⟨some 73, _, _, _, _, _⟩) (v := ?_) rfl (by kernel_rfl) (by kernel_rfl) (by kernel_rfl) (fun _ _ _ h => h) (Or.inl ⟨by kernel_rfl, ?_⟩) hHeld ?_
              rotate_left
              · intro w hSw
                (try dsimp only at hSw)
                go_simp
                all_goals (with_reducible rfl)
              conv => arg 8; simp only [Act.put, List.setIfInBounds_toArray, List.set_cons_zero, List.set_cons_succ]
              refine wpAnyH_take (i := 5) (oi := ⟨some 75, _, _, _, _, _⟩) (v := ?_) rfl (by kernel_rfl) (by kernel_rfl) (by kernel_rfl) (fun _ _ _ h => h) (Or.inl ⟨by kernel_rfl, ?_⟩) hHeld ?_
              rotate_left
              · intro w hSw
                (try dsimp only at hSw)
                go_simp
                all_goals (with_reducible rfl)
              conv => arg 8; simp only [Act.put, List.setIfInBounds_toArray, List.set_cons_zero, List.set_cons_succ]
              refine wpAnyH_take (i := 6) (oi := ⟨some 76, _, _, _, _, _⟩) (v := ?_) rfl (by kernel_rfl) (by kernel_rfl) (by kernel_rfl) (fun _ _ _ h => h) (Or.inl ⟨by kernel_rfl, ?_⟩) hHeld ?_
              rotate_left
              · intro w hSw
                (try dsimp only at hSw)
                go_simp
                all_goals (with_reducible rfl)
              conv => arg 8; simp only [Act.put, List.setIfInBounds_toArray, List.set_cons_zero, List.set_cons_succ]
              refine wpAnyH_take (i := 7) (oi := ⟨some 77, _, _, _, _, _⟩) (v := ?_) rfl (by kernel_rfl) (by kernel_rfl) (by kernel_rfl) (fun _ _ _ h => h) (Or.inl ⟨by kernel_rfl, ?_⟩) hHeld ?_
              rotate_left
              · intro w hSw
                (try dsimp only at hSw)
                go_simp
                all_goals (with_reducible rfl)
              conv => arg 8; simp only [Act.put, List.setIfInBounds_toArray, List.set_cons_zero, List.set_cons_succ]
              refine wpAnyH_take (i := 8) (oi := ⟨some 78, _, _, _, _, _⟩) (v := ?_) rfl (by kernel_rfl) (by kernel_rfl) (by kernel_rfl) (fun _ _ _ h => h) (Or.inl ⟨by kernel_rfl, ?_⟩) hHeld ?_
              rotate_left
              · intro w hSw
                (try dsimp only at hSw)
                go_simp
                all_goals (with_reducible rfl)
              conv => arg 8; simp only [Act.put, List.setIfInBounds_toArray, List.set_cons_zero, List.set_cons_succ]
              refine wpAnyH_ready (rs := [0]) (by kernel_rfl) (by simp) ?_
              refine AllReadyH.cons (o := ⟨some 70, _, _, _, _, _⟩) rfl (fun K hK => ?_) AllReadyH.nil
              go_simp
              refine hK.out _ _ trivial (fun hHeld => ?_)
              clear hK K
              conv => arg 8; simp only [Act.put, List.setIfInBounds_toArray, List.set_cons_zero, List.set_cons_succ]
              refine wpAnyH_ready (rs := [4]) (by kernel_rfl) (by simp) ?_
              refine AllReadyH.cons (o := ⟨some 74, _, _, _, _, _⟩) rfl (fun K hK => ?_) AllReadyH.nil
              refine step_append_any _ (by rfl) (.tmp 70) (.tmp 73) _ (by rfl) w8.heap.size 43 i0 _ 2 16 Try.underlying50 HI0.out HZ0.out hz1 hz2 rfl (by omega) (.slice (some ⟨w8.heap.size, 0, none⟩) 0 0) (0) ([]) (by rfl) HE0.out.drew _ (some ⟨gl, 0, none⟩) (q4) _ (hdlsV ((live).take q4)) (by rfl) (HR1.out _ HBL.out) (hdlsV_oneCell _) (by unfold maxLen; omega) (by omega) (HBL.out).size ?_
              intro v9 w9 ho_w9 hg_w9 hat_w9
              rw [Nat.zero_add, List.nil_append] at ho_w9
              obtain ⟨A9, c9, rfl⟩ := own_form ho_w9
              have hb_w9 : Below w8.heap.size w8 w9 := (HBL.out).grown hg_w9 (HBL.out).size (fun g e => ((HE0.out.drew).lt g e).1)
              have HB_w9 := Lib.hid hb_w9
              have HO_w9 := Lib.hid ho_w9
              clear ho_w9 hg_w9 hat_w9 hb_w9
              refine hK.out _ _ trivial (fun hHeld => ?_)
              clear hK K
              conv => arg 8; simp only [Act.put, List.setIfInBounds_toArray, List.set_cons_zero, List.set_cons_succ]
              refine wpAnyH_ready (rs := [9]) (by kernel_rfl) (by simp) ?_
              refine AllReadyH.cons (o := ⟨some 79, _, _, _, _, _⟩) rfl (fun K hK => ?_) AllReadyH.nil
              refine step_append_any _ (by rfl) (.tmp 74) (.tmp 78) _ (by rfl) w8.heap.size 43 i0 _ 2 16 Try.underlying50 HI0.out HZ0.out hz1 hz2 rfl (by omega) (.slice A9 q4 c9) (q4) (hdlsV ((live).take q4)) (by rfl) HO_w9.out _ (some ⟨gl, 0, none⟩) (0) 0 ([]) (by rfl) (Reads.none_ (B := 0) (A := some ⟨gl, 0, none⟩)) (by simp) (by unfold maxLen; omega) (by omega) (HB_w9.out).size ?_
              intro v10 w10 ho_w10 hg_w10 hat_w10
              rw [Nat.add_zero, List.append_nil] at ho_w10
              obtain ⟨A10, c10, rfl⟩ := own_form ho_w10
              have hb_w10 : Below w8.heap.size w8 w10 := (HB_w9.out).grown hg_w10 (HB_w9.out).size (fun g e => ((HO_w9.out).lt g e).1)
              have HB_w10 := Lib.hid hb_w10
              have HO_w10 := Lib.hid ho_w10
              clear ho_w10 hg_w10 hat_w10 hb_w10
              refine hK.out _ _ trivial (fun hHeld => ?_)
              clear hK K
              conv => arg 8; simp only [Act.put, List.setIfInBounds_toArray, List.set_cons_zero, List.set_cons_succ]
              refine wpAnyH_take (i := 10) (oi := ⟨some 5, _, _, _, _, _⟩) (v := ?_) rfl (by kernel_rfl) (by kernel_rfl) (by kernel_rfl) (fun _ _ _ h => h) (Or.inl ⟨by kernel_rfl, ?_⟩) hHeld ?_
              rotate_left
              · intro w hSw
                (try dsimp only at hSw)
                go_simp
                all_goals (with_reducible rfl)
              conv => arg 8; simp only [Act.put, List.setIfInBounds_toArray, List.set_cons_zero, List.set_cons_succ]
              refine wpAnyH_done (by kernel_rfl) ?_ _
              refine NoPanic.normal ?_
              have ho : w10.ownsRow w8.heap.size 43 2 (.slice A10 q4 c10) (lack (live) q4).length (hdlsV (lack (live) q4)) := by
                rw [hdlsV_lack, show (lack (live) q4).length = q4 by rw [HLK.out]; omega, hee.out (by first | rfl | trivial)]
                simpa [hdlsV] using HO_w10.out
              have HS10 := Lib.hid (HS8.out.fresh (live' := lack (live) q4) HB_w10.out ho)
              clear hHeld ho
              have hleW := HS10.out.le
              have hdW := HP7.out.dl
              have hdlW := HD8.out
              go_wp2_with fail
              go_loopw [82] (fun i wr => ∃ y : Nat, y ≤ d8 ∧ i = .int .i64 (y : Int) ∧ Below w10.heap.size w10 wr) (fun i _ => d8 - (intOf i).toNat)
              case atStart => exact ⟨0, by omega, rfl, Below.refl _ _⟩
              case round =>
                obtain ⟨y, hy, rfl, hby⟩ := hrel
                have HSY := Lib.hid (HS10.out.below hby)
                have HBY := Lib.hid hby
                clear hby
                rcases Nat.lt_or_ge y (d8) with hly | hgy
                · have t21 : (y : Int) < ((d8 : Nat) : Int) := by omega
                  have t22 : (0 : Int) ≤ y := by omega
                  obtain ⟨xd, hxd⟩ : ∃ xx, ((dead ++ [x]))[y]? = some xx := ⟨_, List.getElem?_eq_getElem (by omega)⟩
                  have hdr := HSY.out.dr
                  rw [← hdlW] at hdr
                  obtain ⟨gd, hAd, k0, k1, hgl⟩ := hdls_cell hdr hxd
                  subst hAd
                  have HXD := Lib.hid (List.mem_of_getElem? hxd)
                  clear hdr hxd
                  go_upto_region 22 with (fail)
                  generalize hwb : World.alloc _ _ = wz
                  have hbz : Below wr.heap.size wr wz := by rw [← hwb]; exact (Below.refl _ _).alloc (Nat.le_refl _) _
                  have hkz : Blk wz wr.heap.size 43 #[.int .i64 (xd.1 : Int), .int .i64 (xd.2 : Int)] := by rw [← hwb]; exact heap_alloc_new _ _
                  have HSZ := Lib.hid (HSY.out.below hbz)
                  have k2 : wz.cell? ⟨wr.heap.size, 0, none⟩ = some (.int .i64 (xd.1 : Int)) := hkz.cell 0
                  have k3 : wz.cell? ⟨wr.heap.size, 1, none⟩ = some (.int .i64 (xd.2 : Int)) := hkz.cell 1
                  have HBZ := Lib.hid (HBY.out.trans (hbz.mono HBY.out.size))
                  clear k0 k1 hwb hbz hkz
                  go_wp2_with fail
                  refine (st_get wa B C B n _ _ _ _ _ _ wz HSZ.out HP7.out (by omega) xd HXD.out).mono ?_
                  rintro e wg ⟨rfl, hbg⟩
                  have qs := box_sto wg ent0 (.slice none 0 0) (.slice none 0 0) (entCells_one rfl rfl)
                  have HBG := Lib.hid (HBZ.out.trans (hbg.mono HBZ.out.size))
                  clear hbg k2 k3
                  go_upto_region 23 with (fail)
                  generalize hwb : storeMid _ _ _ = wh
                  have hbx := box_end hwb
                  have HBH := Lib.hid (HBG.out.trans (hbx.1.mono HBG.out.size))
                  clear qs hwb hbx
                  go_wp2_with fail
                  go_roundw
                  case rel => exact ⟨y + 1, by omega, by go_num, HBH.out⟩
                  case measure => simp [intOf]; omega
                · obtain rfl : d8 = y := by omega
                  have t21 : ¬ (((d8 : Nat) : Int)) < ((d8 : Nat) : Int) := by omega
                  go_wp2_with fail
                  go_roundw
                  case rel => exact ⟨_, _, (dead ++ [x]), N + 2 + 1, HSY.out, HP7.out, by omega⟩
                  case measure =>
                    show n - numC _ B < n - numC _ B
                    rw [HSY.out.num.numC, hNC.out]
                    omega
          · have t3 : ¬ (q2 : Int) = 0 := by omega
            have t3' : ((q2 : Int) == 0) = false := by simp; omega
            have hleW := HS5.out.le
            have hdW := HP5.out.dl
            have hdlW := HDL.out
            go_wp2_with fail
            go_loopw [82] (fun i wr => ∃ y : Nat, y ≤ dl ∧ i = .int .i64 (y : Int) ∧ Below w5.heap.size w5 wr) (fun i _ => dl - (intOf i).toNat)
            case atStart => exact ⟨0, by omega, rfl, Below.refl _ _⟩
            case round =>
              obtain ⟨y, hy, rfl, hby⟩ := hrel
              have HSY := Lib.hid (HS5.out.below hby)
              have HBY := Lib.hid hby
              clear hby
              rcases Nat.lt_or_ge y (dl) with hly | hgy
              · have t21 : (y : Int) < ((dl : Nat) : Int) := by omega
                have t22 : (0 : Int) ≤ y := by omega
                obtain ⟨xd, hxd⟩ : ∃ xx, (dead)[y]? = some xx := ⟨_, List.getElem?_eq_getElem (by omega)⟩
                have hdr := HSY.out.dr
                rw [← hdlW] at hdr
                obtain ⟨gd, hAd, k0, k1, hgl⟩ := hdls_cell hdr hxd
                subst hAd
                have HXD := Lib.hid (List.mem_of_getElem? hxd)
                clear hdr hxd
                go_upto_region 22 with (fail)
                generalize hwb : World.alloc _ _ = wz
                have hbz : Below wr.heap.size wr wz := by rw [← hwb]; exact (Below.refl _ _).alloc (Nat.le_refl _) _
                have hkz : Blk wz wr.heap.size 43 #[.int .i64 (xd.1 : Int), .int .i64 (xd.2 : Int)] := by rw [← hwb]; exact heap_alloc_new _ _
                have HSZ := Lib.hid (HSY.out.below hbz)
                have k2 : wz.cell? ⟨wr.heap.size, 0, none⟩ = some (.int .i64 (xd.1 : Int)) := hkz.cell 0
                have k3 : wz.cell? ⟨wr.heap.size, 1, none⟩ = some (.int .i64 (xd.2 : Int)) := hkz.cell 1
                have HBZ := Lib.hid (HBY.out.trans (hbz.mono HBY.out.size))
                clear k0 k1 hwb hbz hkz
                go_wp2_with fail
                refine (st_get wa B C B n _ _ _ _ _ _ wz HSZ.out HP5.out (by omega) xd HXD.out).mono ?_
                rintro e wg ⟨rfl, hbg⟩
                have qs := box_sto wg ent0 (.slice none 0 0) (.slice none 0 0) (entCells_one rfl rfl)
                have HBG := Lib.hid (HBZ.out.trans (hbg.mono HBZ.out.size))
                clear hbg k2 k3
                go_upto_region 23 with (fail)
                generalize hwb : storeMid _ _ _ = wh
                have hbx := box_end hwb
                have HBH := Lib.hid (HBG.out.trans (hbx.1.mono HBG.out.size))
                clear qs hwb hbx
                go_wp2_with fail
                go_roundw
                case rel => exact ⟨y + 1, by omega, by go_num, HBH.out⟩
                case measure => simp [intOf]; omega
              · obtain rfl : dl = y := by omega
                have t21 : ¬ (((dl : Nat) : Int)) < ((dl : Nat) : Int) := by omega
                go_wp2_with fail
                go_roundw
                case rel => exact ⟨_, _, dead, N + 2, HSY.out, HP5.out, by omega⟩
                case measure =>
                  show n - numC _ B < n - numC _ B
                  rw [HSY.out.num.numC, hNC.out]
                  omega
      · have HP4 := Lib.hid hp3
        have HS3 := Lib.hid hs3
        clear hs3 hp3
        go_upto_region 10 with (fail)
        generalize hwb : World.alloc _ _ = w4
        have hb4 : Below w3.heap.size w3 w4 := by rw [← hwb]; exact (Below.refl _ _).alloc (Nat.le_refl _) _
        have hk4 : Blk w4 w3.heap.size 43 #[.int .i64 (s3 : Int), .int .i64 (u3 : Int)] := by rw [← hwb]; exact heap_alloc_new _ _
        have k0 : w4.cell? ⟨w3.heap.size, 0, none⟩ = some (.int .i64 (s3 : Int)) := hk4.cell 0
        have k1 : w4.cell? ⟨w3.heap.size, 1, none⟩ = some (.int .i64 (u3 : Int)) := hk4.cell 1
        have HSA := Lib.hid (HS3.out.below hb4)
        have hBw : B ≤ w4.heap.size := HSA.out.le
        have hll3 : ll ≤ 300 := by have := HLL.out; omega
        have HRW : Hid ((w4.alloc (.cells #[.int .i64 (s3 : Int), .int .i64 (u3 : Int)] 43)).ownsRow B 43 2 (.slice Al ll cl) ll (hdlsV live)) := by
          have h1 := (HSA.out.below ((Below.refl w4.heap.size w4).alloc (Nat.le_refl _) (.cells #[.int .i64 (s3 : Int), .int .i64 (u3 : Int)] 43))).lr
          rw [HLL.out] at h1
          exact h1
        have HRX := Lib.hid (hdl_reads w4 (s3, u3))
        clear hwb hb4 HS3 hk4
        go_upto_region 13 with (first
          | (refine wpList_buildSlice rfl 50 43 1 _ rfl #[.int .i64 (s3 : Int), .int .i64 (u3 : Int)] i0 _ Try.underlying50 HI0.out HZ0.out (by rw [hz1]; omega) (by rw [hz1]; omega) (by simp only [List.map_toArray, List.map_cons, List.map_nil]; exact hdl_fill _ _ i0 hz1) ?_)
          | (at_builtin
             refine wpList_append_any _ rfl (.tmp 40) (.tmp 42) _ rfl B 43 i0 _ 2 16 Try.underlying50 HI0.out HZ0.out hz1 hz2 rfl (by omega) (.slice Al ll cl) ll _ (by rfl)
               HRW.out _ _ 1 1 _ (by rfl) HRX.out (hdlsV_oneCell _) (by unfold maxLen; omega) (by omega) (by rw [World.size_alloc]; omega) ?_
             intro v6a w6a hr6 hg6 hat6
             rw [← hdlsV_append] at hr6
             have hd6 : (live ++ [(s3, u3)]).length = ll + 1 := by rw [List.length_append, HLL.out]; rfl
             obtain ⟨l4, hl4⟩ : ∃ d, ll + 1 = d := ⟨_, rfl⟩
             rw [hl4] at hr6 hd6
             obtain ⟨A4, c4, rfl⟩ := own_form hr6
             have hs6 := (HSA.out.below ((Below.refl w4.heap.size w4).alloc (Nat.le_refl _) (.cells #[.int .i64 (s3 : Int), .int .i64 (u3 : Int)] 43))).live (live' := live ++ [(s3, u3)]) hg6 (by rw [hd6]; exact hr6) hat6
             have HS4 := Lib.hid hs6
             have HL4 := Lib.hid hd6
             clear hr6 hg6 hat6 hs6 hd6 hl4))
        have hllb : (l4) ≤ 300 := by have h1 := HL4.out; have h2 := HP4.out.len; omega
        rcases Nat.eq_zero_or_pos (l4) with h0 | h0
        · have H0 := Lib.hid h0
          clear h0
          have t2 : ¬ (((l4 : Nat) : Int)) > 0 := by have := H0.out; omega
          have hleW := HS4.out.le
          have hdW := HP4.out.dl
          have hdlW := HDL.out
          go_wp2_with fail
          go_loopw [82] (fun i wr => ∃ y : Nat, y ≤ dl ∧ i = .int .i64 (y : Int) ∧ Below w6a.heap.size w6a wr) (fun i _ => dl - (intOf i).toNat)
          case atStart => exact ⟨0, by omega, rfl, Below.refl _ _⟩
          case round =>
            obtain ⟨y, hy, rfl, hby⟩ := hrel
            have HSY := Lib.hid (HS4.out.below hby)
            have HBY := Lib.hid hby
            clear hby
            rcases Nat.lt_or_ge y (dl) with hly | hgy
            · have t21 : (y : Int) < ((dl : Nat) : Int) := by omega
              have t22 : (0 : Int) ≤ y := by omega
              obtain ⟨xd, hxd⟩ : ∃ xx, (dead)[y]? = some xx := ⟨_, List.getElem?_eq_getElem (by omega)⟩
              have hdr := HSY.out.dr
              rw [← hdlW] at hdr
              obtain ⟨gd, hAd, k0, k1, hgl⟩ := hdls_cell hdr hxd
              subst hAd
              have HXD := Lib.hid (List.mem_of_getElem? hxd)
              clear hdr hxd
              go_upto_region 22 with (fail)
              generalize hwb : World.alloc _ _ = wz
              have hbz : Below wr.heap.size wr wz := by rw [← hwb]; exact (Below.refl _ _).alloc (Nat.le_refl _) _
              have hkz : Blk wz wr.heap.size 43 #[.int .i64 (xd.1 : Int), .int .i64 (xd.2 : Int)] := by rw [← hwb]; exact heap_alloc_new _ _
              have HSZ := Lib.hid (HSY.out.below hbz)
              have k2 : wz.cell? ⟨wr.heap.size, 0, none⟩ = some (.int .i64 (xd.1 : Int)) := hkz.cell 0
              have k3 : wz.cell? ⟨wr.heap.size, 1, none⟩ = some (.int .i64 (xd.2 : Int)) := hkz.cell 1
              have HBZ := Lib.hid (HBY.out.trans (hbz.mono HBY.out.size))
              clear k0 k1 hwb hbz hkz
              go_wp2_with fail
              refine (st_get wa B C B n _ _ _ _ _ _ wz HSZ.out HP4.out (by omega) xd HXD.out).mono ?_
              rintro e wg ⟨rfl, hbg⟩
              have qs := box_sto wg ent0 (.slice none 0 0) (.slice none 0 0) (entCells_one rfl rfl)
              have HBG := Lib.hid (HBZ.out.trans (hbg.mono HBZ.out.size))
              clear hbg k2 k3
              go_upto_region 23 with (fail)
              generalize hwb : storeMid _ _ _ = wh
              have hbx := box_end hwb
              have HBH := Lib.hid (HBG.out.trans (hbx.1.mono HBG.out.size))
              clear qs hwb hbx
              go_wp2_with fail
              go_roundw
              case rel => exact ⟨y + 1, by omega, by go_num, HBH.out⟩
              case measure => simp [intOf]; omega
            · obtain rfl : dl = y := by omega
              have t21 : ¬ (((dl : Nat) : Int)) < ((dl : Nat) : Int) := by omega
              go_wp2_with fail
              go_roundw
              case rel => exact ⟨_, _, dead, N + 1, HSY.out, HP4.out, by omega⟩
              case measure =>
                show n - numC _ B < n - numC _ B
                rw [HSY.out.num.numC, hNC.out]
                omega
        · have t2 : (((l4 : Nat) : Int)) > 0 := by omega
          go_wp2_with fail
          refine (next_any w6a B B n (N + 1) 2 HS4.out.num (by omega) (by omega) (by omega)).mono ?_
          rintro e w5 ⟨q2, hq2, rfl, ho5, hsz5, hn5⟩
          have HS5 := Lib.hid (HS4.out.next ho5 hn5)
          have HP5 := Lib.hid (HP4.out.more (Nat.le_succ (N + 1)))
          clear ho5 hn5 hsz5
          rcases Nat.eq_zero_or_pos q2 with hq0 | hq0
          · subst hq0
            go_wp2_with fail
            refine (next_any w5 B B n (N + 2) (l4) HS5.out.num (by omega) (by omega) (by omega)).mono ?_
            rintro e w6 ⟨q4, hq4, rfl, ho6, hsz6, hn6⟩
            have HS6 := Lib.hid (HS5.out.next ho6 hn6)
            clear ho6 hn6 hsz6
            obtain ⟨x, hx⟩ : ∃ x, (live ++ [(s3, u3)])[q4]? = some x := ⟨_, List.getElem?_eq_getElem (by rw [HL4.out]; omega)⟩
            have hlr := HS6.out.lr
            rw [← HL4.out] at hlr
            obtain ⟨gl, hAl, k0, k1, hgl⟩ := hdls_cell hlr hx
            have hAl0 := hAl
            subst hAl
            have t4 : (q4 : Int) < ((l4 : Nat) : Int) := by omega
            have t5 : (0 : Int) ≤ q4 := by omega
            have HX := Lib.hid hx
            clear hlr hx
            go_wp2_with fail
            refine (st_rem wa B C B n (N + 2) _ _ _ _ _ w6 HS6.out HP5.out (by omega) q4 x HX.out).mono ?_
            rintro e w7 ⟨rfl, hs7, hp7⟩
            have hlr := hs7.lr
            rw [← HL4.out] at hlr
            obtain ⟨gl', hAl, k0', k1', hgl'⟩ := hdls_cell hlr HX.out
            injection hAl with hAl
            injection hAl with hAl
            subst hAl
            have HS7 := Lib.hid hs7
            have HP7 := Lib.hid hp7
            clear k0 k1 hlr hs7 hp7
            have HRW : Hid ((w7.alloc (.cells #[.int .i64 (x.1 : Int), .int .i64 (x.2 : Int)] 43)).ownsRow B 43 2 (.slice Ad dl cd) dl (hdlsV dead)) := by
              have h1 := (HS7.out.below ((Below.refl w7.heap.size w7).alloc (Nat.le_refl _) (.cells #[.int .i64 (x.1 : Int), .int .i64 (x.2 : Int)] 43))).dr
              rw [HDL.out] at h1
              exact h1
            have HRX := Lib.hid (hdl_reads w7 x)
            have hBw : B ≤ w7.heap.size := HS7.out.le
            have hdl3 : dl ≤ 300 := by have := HDL.out; omega
            go_upto_region 17 with (fail)
            go_wp2_with (first
              | (refine wpList_buildSlice rfl 50 43 1 _ rfl #[.int .i64 (x.1 : Int), .int .i64 (x.2 : Int)] i0 _ Try.underlying50 HI0.out HZ0.out (by rw [hz1]; omega) (by rw [hz1]; omega) (by simp only [List.map_toArray, List.map_cons, List.map_nil]; exact hdl_fill _ _ i0 hz1) ?_)
              | (at_builtin
                 refine wpList_append_any _ rfl (.tmp 63) (.tmp 68) _ rfl B 43 i0 _ 2 16 Try.underlying50 HI0.out HZ0.out hz1 hz2 rfl (by omega) (.slice Ad dl cd) dl _ (by rfl)
                   HRW.out _ _ 1 1 _ (by rfl) HRX.out (hdlsV_oneCell _) (by unfold maxLen; omega) (by omega) (by rw [World.size_alloc]; omega) ?_
                 intro v8 w8 hr8 hg8 hat8
                 rw [← hdlsV_append] at hr8
                 have hd8 : (dead ++ [x]).length = dl + 1 := by rw [List.length_append, HDL.out]; rfl
                 obtain ⟨d8, hd8'⟩ : ∃ d, dl + 1 = d := ⟨_, rfl⟩
                 rw [hd8'] at hr8 hd8
                 obtain ⟨A8, c8, rfl⟩ := own_form hr8
                 have hs8 := (HS7.out.below ((Below.refl w7.heap.size w7).alloc (Nat.le_refl _) (.cells #[.int .i64 (x.1 : Int), .int .i64 (x.2 : Int)] 43))).dead (dead' := dead ++ [x]) hg8 (by rw [hd8]; exact hr8) hat8
                 have HS8 := Lib.hid hs8
                 have HD8 := Lib.hid hd8
                 clear hr8 hg8 hat8 hs8 hd8 hd8'))
            go_upto_region 18 with (fail)
            have hlr := HS8.out.lr
            rw [HL4.out] at hlr
            obtain ⟨hcc, hc63⟩ := own_cap hlr
            have hrd := Reads.of_own hlr
            have hz8 : w8.heap.size ≤ w8.heap.size := Nat.le_refl _
            have HR1 : Hid (∀ W, Below w8.heap.size w8 W → Reads W w8.heap.size 2 (some ⟨gl, 0, none⟩) q4 (hdlsV ((live ++ [(s3, u3)]).take q4))) := fun W hW => hreads_take (by rw [HL4.out]; exact hrd.below hW) (by rw [HL4.out]; omega)
            have HR2 : Hid (c4 ≠ q4 + 1 → ∀ W, Below w8.heap.size w8 W → Reads W w8.heap.size 2 (some ⟨gl, (q4 + 1) * 2, none⟩) (l4 - (q4 + 1)) (hdlsV ((live ++ [(s3, u3)]).drop (q4 + 1)))) := fun hne W hW => by
              have := hreads_drop (c := c4) (i := q4 + 1) (L := live ++ [(s3, u3)]) (g := gl) (o := 0) (w := W) (B := w8.heap.size) (by rw [HL4.out]; exact hrd.below hW) (by rw [HL4.out]; omega) (by rw [HL4.out]; exact hcc) hne
              rw [HL4.out, Nat.zero_add] at this
              exact this
            have hee : Hid (c4 = q4 + 1 → (live ++ [(s3, u3)]).drop (q4 + 1) = []) := fun e => List.drop_of_length_le (by rw [HL4.out]; omega)
            have HE0 := Lib.hid (hempty_own w8)
            have HBL : Hid (Below w8.heap.size w8 (w8.alloc (.cells #[] 43)).drew) := belowDrewR ((Below.refl _ _).alloc (Nat.le_refl _) _)
            have g1 : IntKind.i64.wrap ((q4 : Int) + 1) = (q4 : Int) + 1 := IntWalk.i64_in _ (by omega)
            have p0 : (0 : Int) ≤ (q4 : Int) + 1 := by omega
            have p1 : ((q4 : Int) + 1).toNat = q4 + 1 := by omega
            have hlk : (lack (live ++ [(s3, u3)]) q4).length = l4 - 1 := by rw [lack_len (by rw [HL4.out]; omega), HL4.out]
            have HLK := Lib.hid hlk
            clear hrd hlr hlk k0' k1'
            by_cases hne : c4 ≠ q4 + 1
            · have HNE := Lib.hid hne
              have t6 : (q4 : Int) ≤ c4 := by omega
              have t7 : (q4 : Int) + 1 ≤ l4 := by omega
              have t8 : (l4 : Int) ≤ c4 := by omega
              clear hne
              have hne := HNE.out
              refine wp_region_noPanic ?_
              refine wp_region_held_drew (S := fun _ => True) (by kernel_rfl) trivial (fun hHeld => ?_)
              refine wpAnyH_take (i := 1) (oi := ⟨some 71, _, _, _, _, _⟩) (v := ?_) rfl (by kernel_rfl) (by kernel_rfl) (by kernel_rfl) (fun _ _ _ h => h) (Or.inl ⟨by kernel_rfl, ?_⟩) hHeld ?_
              rotate_left
              · intro w hSw
                (try dsimp only at hSw)
                go_simp
                all_goals (with_reducible rfl)
              conv => arg 8; simp only [Act.put, List.setIfInBounds_toArray, List.set_cons_zero, List.set_cons_succ]
              refine wpAnyH_take (i := 2) (oi := ⟨some 72, _, _, _, _, _⟩) (v := ?_) rfl (by kernel_rfl) (by kernel_rfl) (by kernel_rfl) (fun _ _ _ h => h) (Or.inl ⟨by kernel_rfl, ?_⟩) hHeld ?_
              rotate_left
              · intro w hSw
                (try dsimp only at hSw)
                go_simp
                all_goals (with_reducible rfl)
              conv => arg 8; simp only [Act.put, List.setIfInBounds_toArray, List.set_cons_zero, List.set_cons_succ]
              refine wpAnyH_take (i := 3) (oi := ⟨some 73, _, _, _, _, _⟩) (v := ?_) rfl (by kernel_rfl) (by kernel_rfl) (by kernel_rfl) (fun _ _ _ h => h) (Or.inl ⟨by kernel_rfl, ?_⟩) hHeld ?_
              rotate_left
              · intro w hSw
                (try dsimp only at hSw)
                go_simp
                all_goals (with_reducible rfl)
              conv => arg 8; simp only [Act.put, List.setIfInBounds_toArray, List.set_cons_zero, List.set_cons_succ]
              refine wpAnyH_take (i := 5) (oi := ⟨some 75, _, _, _, _, _⟩) (v := ?_) rfl (by kernel_rfl) (by kernel_rfl) (by kernel_rfl) (fun _ _ _ h => h) (Or.inl ⟨by kernel_rfl, ?_⟩) hHeld ?_
              rotate_left
              · intro w hSw
                (try dsimp only at hSw)
                go_simp
                all_goals (with_reducible rfl)
              conv => arg 8; simp only [Act.put, List.setIfInBounds_toArray, List.set_cons_zero, List.set_cons_succ]
              refine wpAnyH_take (i := 6) (oi := ⟨some 76, _, _, _, _, _⟩) (v := ?_) rfl (by kernel_rfl) (by kernel_rfl) (by kernel_rfl) (fun _ _ _ h => h) (Or.inl ⟨by kernel_rfl, ?_⟩) hHeld ?_
              rotate_left
              · intro w hSw
                (try dsimp only at hSw)
                go_simp
                all_goals (with_reducible rfl)
              conv => arg 8; simp only [Act.put, List.setIfInBounds_toArray, List.set_cons_zero, List.set_cons_succ]
              refine wpAnyH_take (i := 7) (oi := ⟨some 77, _, _, _, _, _⟩) (v := ?_) rfl (by kernel_rfl) (by kernel_rfl) (by kernel_rfl) (fun _ _ _ h => h) (Or.inl ⟨by kernel_rfl, ?_⟩) hHeld ?_
              rotate_left
              · intro w hSw
                (try dsimp only at hSw)
                go_simp
                all_goals (with_reducible rfl)
              conv => arg 8; simp only [Act.put, List.setIfInBounds_toArray, List.set_cons_zero, List.set_cons_succ]
              refine wpAnyH_take (i := 8) (oi := ⟨some 78, _, _, _, _, _⟩) (v := ?_) rfl (by kernel_rfl) (by kernel_rfl) (by kernel_rfl) (fun _ _ _ h => h) (Or.inl ⟨by kernel_rfl, ?_⟩) hHeld ?_
              rotate_left
              · intro w hSw
                (try dsimp only at hSw)
                go_simp
                all_goals (with_reducible rfl)
              conv => arg 8; simp only [Act.put, List.setIfInBounds_toArray, List.set_cons_zero, List.set_cons_succ]
              refine wpAnyH_ready (rs := [0]) (by kernel_rfl) (by simp) ?_
              refine AllReadyH.cons (o := ⟨some 70, _, _, _, _, _⟩) rfl (fun K hK => ?_) AllReadyH.nil
              go_simp
              refine hK.out _ _ trivial (fun hHeld => ?_)
              clear hK K
              conv => arg 8; simp only [Act.put, List.setIfInBounds_toArray, List.set_cons_zero, List.set_cons_succ]
              refine wpAnyH_ready (rs := [4]) (by kernel_rfl) (by simp) ?_
              refine AllReadyH.cons (o := ⟨some 74, _, _, _, _, _⟩) rfl (fun K hK => ?_) AllReadyH.nil
              refine step_append_any _ (by rfl) (.tmp 70) (.tmp 73) _ (by rfl) w8.heap.size 43 i0 _ 2 16 Try.underlying50 HI0.out HZ0.out hz1 hz2 rfl (by omega) (.slice (some ⟨w8.heap.size, 0, none⟩) 0 0) (0) ([]) (by rfl) HE0.out.drew _ (some ⟨gl, 0, none⟩) (q4) _ (hdlsV ((live ++ [(s3, u3)]).take q4)) (by rfl) (HR1.out _ HBL.out) (hdlsV_oneCell _) (by unfold maxLen; omega) (by omega) (HBL.out).size ?_
              intro v9 w9 ho_w9 hg_w9 hat_w9
              rw [Nat.zero_add, List.nil_append] at ho_w9
              obtain ⟨A9, c9, rfl⟩ := own_form ho_w9
              have hb_w9 : Below w8.heap.size w8 w9 := (HBL.out).grown hg_w9 (HBL.out).size (fun g e => ((HE0.out.drew).lt g e).1)
              have HB_w9 := Lib.hid hb_w9
              have HO_w9 := Lib.hid ho_w9
              clear ho_w9 hg_w9 hat_w9 hb_w9
              refine hK.out _ _ trivial (fun hHeld => ?_)
              clear hK K
              conv => arg 8; simp only [Act.put, List.setIfInBounds_toArray, List.set_cons_zero, List.set_cons_succ]
              refine wpAnyH_ready (rs := [9]) (by kernel_rfl) (by simp) ?_
              refine AllReadyH.cons (o := ⟨some 79, _, _, _, _, _⟩) rfl (fun K hK => ?_) AllReadyH.nil
              refine step_append_any _ (by rfl) (.tmp 74) (.tmp 78) _ (by rfl) w8.heap.size 43 i0 _ 2 16 Try.underlying50 HI0.out HZ0.out hz1 hz2 rfl (by omega) (.slice A9 q4 c9) (q4) (hdlsV ((live ++ [(s3, u3)]).take q4)) (by rfl) HO_w9.out _ (some ⟨gl, (q4 + 1) * 2, none⟩) (l4 - (q4 + 1)) _ (hdlsV ((live ++ [(s3, u3)]).drop (q4 + 1))) (by rfl) (HR2.out hne _ HB_w9.out) (hdlsV_oneCell _) (by unfold maxLen; omega) (by omega) (HB_w9.out).size ?_
              intro v10 w10 ho_w10 hg_w10 hat_w10
              obtain ⟨l10, hl10⟩ : ∃ l, q4 + (l4 - (q4 + 1)) = l := ⟨_, rfl⟩
              rw [hl10] at ho_w10
              have HL10 := Lib.hid hl10
              clear hl10
              obtain ⟨A10, c10, rfl⟩ := own_form ho_w10
              have hb_w10 : Below w8.heap.size w8 w10 := (HB_w9.out).grown hg_w10 (HB_w9.out).size (fun g e => ((HO_w9.out).lt g e).1)
              have HB_w10 := Lib.hid hb_w10
              have HO_w10 := Lib.hid ho_w10
              clear ho_w10 hg_w10 hat_w10 hb_w10
              refine hK.out _ _ trivial (fun hHeld => ?_)
              clear hK K
              conv => arg 8; simp only [Act.put, List.setIfInBounds_toArray, List.set_cons_zero, List.set_cons_succ]
              refine wpAnyH_take (i := 10) (oi := ⟨some 5, _, _, _, _, _⟩) (v := ?_) rfl (by kernel_rfl) (by kernel_rfl) (by kernel_rfl) (fun _ _ _ h => h) (Or.inl ⟨by kernel_rfl, ?_⟩) hHeld ?_
              rotate_left
              · intro w hSw
                (try dsimp only at hSw)
                go_simp
                all_goals (with_reducible rfl)
              conv => arg 8; simp only [Act.put, List.setIfInBounds_toArray, List.set_cons_zero, List.set_cons_succ]
              refine wpAnyH_done (by kernel_rfl) ?_ _
              refine NoPanic.normal ?_
              have ho : w10.ownsRow w8.heap.size 43 2 (.slice A10 l10 c10) (lack (live ++ [(s3, u3)]) q4).length (hdlsV (lack (live ++ [(s3, u3)]) q4)) := by
                rw [hdlsV_lack, show (lack (live ++ [(s3, u3)]) q4).length = l10 by rw [HLK.out, ← HL10.out]; omega]
                exact HO_w10.out
              have HS10 := Lib.hid (HS8.out.fresh (live' := lack (live ++ [(s3, u3)]) q4) HB_w10.out ho)
              clear hne hHeld ho
              have hleW := HS10.out.le
              have hdW := HP7.out.dl
              have hdlW := HD8.out
              go_wp2_with fail
              go_loopw [82] (fun i wr => ∃ y : Nat, y ≤ d8 ∧ i = .int .i64 (y : Int) ∧ Below w10.heap.size w10 wr) (fun i _ => d8 - (intOf i).toNat)
              case atStart => exact ⟨0, by omega, rfl, Below.refl _ _⟩
              case round =>
                obtain ⟨y, hy, rfl, hby⟩ := hrel
                have HSY := Lib.hid (HS10.out.below hby)
                have HBY := Lib.hid hby
                clear hby
                rcases Nat.lt_or_ge y (d8) with hly | hgy
                · have t21 : (y : Int) < ((d8 : Nat) : Int) := by omega
                  have t22 : (0 : Int) ≤ y := by omega
                  obtain ⟨xd, hxd⟩ : ∃ xx, ((dead ++ [x]))[y]? = some xx := ⟨_, List.getElem?_eq_getElem (by omega)⟩
                  have hdr := HSY.out.dr
                  rw [← hdlW] at hdr
                  obtain ⟨gd, hAd, k0, k1, hgl⟩ := hdls_cell hdr hxd
                  subst hAd
                  have HXD := Lib.hid (List.mem_of_getElem? hxd)
                  clear hdr hxd
                  go_upto_region 22 with (fail)
                  generalize hwb : World.alloc _ _ = wz
                  have hbz : Below wr.heap.size wr wz := by rw [← hwb]; exact (Below.refl _ _).alloc (Nat.le_refl _) _
                  have hkz : Blk wz wr.heap.size 43 #[.int .i64 (xd.1 : Int), .int .i64 (xd.2 : Int)] := by rw [← hwb]; exact heap_alloc_new _ _
                  have HSZ := Lib.hid (HSY.out.below hbz)
                  have k2 : wz.cell? ⟨wr.heap.size, 0, none⟩ = some (.int .i64 (xd.1 : Int)) := hkz.cell 0
                  have k3 : wz.cell? ⟨wr.heap.size, 1, none⟩ = some (.int .i64 (xd.2 : Int)) := hkz.cell 1
                  have HBZ := Lib.hid (HBY.out.trans (hbz.mono HBY.out.size))
                  clear k0 k1 hwb hbz hkz
                  go_wp2_with fail
                  refine (st_get wa B C B n _ _ _ _ _ _ wz HSZ.out HP7.out (by omega) xd HXD.out).mono ?_
                  rintro e wg ⟨rfl, hbg⟩
                  have qs := box_sto wg ent0 (.slice none 0 0) (.slice none 0 0) (entCells_one rfl rfl)
                  have HBG := Lib.hid (HBZ.out.trans (hbg.mono HBZ.out.size))
                  clear hbg k2 k3
                  go_upto_region 23 with (fail)
                  generalize hwb : storeMid _ _ _ = wh
                  have hbx := box_end hwb
                  have HBH := Lib.hid (HBG.out.trans (hbx.1.mono HBG.out.size))
                  clear qs hwb hbx
                  go_wp2_with fail
                  go_roundw
                  case rel => exact ⟨y + 1, by omega, by go_num, HBH.out⟩
                  case measure => simp [intOf]; omega
                · obtain rfl : d8 = y := by omega
                  have t21 : ¬ (((d8 : Nat) : Int)) < ((d8 : Nat) : Int) := by omega
                  go_wp2_with fail
                  go_roundw
                  case rel => exact ⟨_, _, (dead ++ [x]), N + 2 + 1, HSY.out, HP7.out, by omega⟩
                  case measure =>
                    show n - numC _ B < n - numC _ B
                    rw [HSY.out.num.numC, hNC.out]
                    omega
            · obtain rfl : c4 = q4 + 1 := by omega
              obtain rfl : l4 = q4 + 1 := by omega
              have t6 : (q4 : Int) ≤ (q4 : Int) + 1 := by omega
              have t7 : (q4 : Int) < (q4 : Int) + 1 := by omega
              clear hne
              refine wp_region_noPanic ?_
              refine wp_region_held_drew (S := fun _ => True) (by kernel_rfl) trivial (fun hHeld => ?_)
              refine wpAnyH_take (i := 1) (oi := ⟨some 71, _, _, _, _, _⟩) (v := ?_) rfl (by kernel_rfl) (by kernel_rfl) (by kernel_rfl) (fun _ _ _ h => h) (Or.inl ⟨by kernel_rfl, ?_⟩) hHeld ?_
              rotate_left
              · intro w hSw
                (try dsimp only at hSw)
                go_simp
                all_goals (with_reducible rfl)
              conv => arg 8; simp only [Act.put, List.setIfInBounds_toArray, List.set_cons_zero, List.set_cons_succ]
              refine wpAnyH_take (i := 2) (oi := ⟨some 72, _, _, _, _, _⟩) (v := ?_) rfl (by kernel_rfl) (by kernel_rfl) (by kernel_rfl) (fun _ _ _ h => h) (Or.inl ⟨by kernel_rfl, ?_⟩) hHeld ?_
              rotate_left
              · intro w hSw
                (try dsimp only at hSw)
                go_simp
                all_goals (with_reducible rfl)
              conv => arg 8; simp only [Act.put, List.setIfInBounds_toArray, List.set_cons_zero, List.set_cons_succ]
              refine wpAnyH_take (i := 3) (oi := ⟨some 73, _, _, _, _, _⟩) (v := ?_) rfl (by kernel_rfl) (by kernel_rfl) (by kernel_rfl) (fun _ _ _ h => h) (Or.inl ⟨by kernel_rfl, ?_⟩) hHeld ?_
              rotate_left
              · intro w hSw
                (try dsimp only at hSw)
                go_simp
                all_goals (with_reducible rfl)
              conv => arg 8; simp only [Act.put, List.setIfInBounds_toArray, List.set_cons_zero, List.set_cons_succ]
              refine wpAnyH_take (i := 5) (oi := ⟨some 75, _, _, _, _, _⟩) (v := ?_) rfl (by kernel_rfl) (by kernel_rfl) (by kernel_rfl) (fun _ _ _ h => h) (Or.inl ⟨by kernel_rfl, ?_⟩) hHeld ?_
              rotate_left
              · intro w hSw
                (try dsimp only at hSw)
                go_simp
                all_goals (with_reducible rfl)
              conv => arg 8; simp only [Act.put, List.setIfInBounds_toArray, List.set_cons_zero, List.set_cons_succ]
              refine wpAnyH_take (i := 6) (oi := ⟨some 76, _, _, _, _, _⟩) (v := ?_) rfl (by kernel_rfl) (by kernel_rfl) (by kernel_rfl) (fun _ _ _ h => h) (Or.inl ⟨by kernel_rfl, ?_⟩) hHeld ?_
              rotate_left
              · intro w hSw
                (try dsimp only at hSw)
                go_simp
                all_goals (with_reducible rfl)
              conv => arg 8; simp only [Act.put, List.setIfInBounds_toArray, List.set_cons_zero, List.set_cons_succ]
              refine wpAnyH_take (i := 7) (oi := ⟨some 77, _, _, _, _, _⟩) (v := ?_) rfl (by kernel_rfl) (by kernel_rfl) (by kernel_rfl) (fun _ _ _ h => h) (Or.inl ⟨by kernel_rfl, ?_⟩) hHeld ?_
              rotate_left
              · intro w hSw
                (try dsimp only at hSw)
                go_simp
                all_goals (with_reducible rfl)
              conv => arg 8; simp only [Act.put, List.setIfInBounds_toArray, List.set_cons_zero, List.set_cons_succ]
              refine wpAnyH_take (i := 8) (oi := ⟨some 78, _, _, _, _, _⟩) (v := ?_) rfl (by kernel_rfl) (by kernel_rfl) (by kernel_rfl) (fun _ _ _ h => h) (Or.inl ⟨by kernel_rfl, ?_⟩) hHeld ?_
              rotate_left
              · intro w hSw
                (try dsimp only at hSw)
                go_simp
                all_goals (with_reducible rfl)
              conv => arg 8; simp only [Act.put, List.setIfInBounds_toArray, List.set_cons_zero, List.set_cons_succ]
              refine wpAnyH_ready (rs := [0]) (by kernel_rfl) (by simp) ?_
              refine AllReadyH.cons (o := ⟨some 70, _, _, _, _, _⟩) rfl (fun K hK => ?_) AllReadyH.nil
              go_simp
              refine hK.out _ _ trivial (fun hHeld => ?_)
              clear hK K
              conv => arg 8; simp only [Act.put, List.setIfInBounds_toArray, List.set_cons_zero, List.set_cons_succ]
              refine wpAnyH_ready (rs := [4]) (by kernel_rfl) (by simp) ?_
              refine AllReadyH.cons (o := ⟨some 74, _, _, _, _, _⟩) rfl (fun K hK => ?_) AllReadyH.nil
              refine step_append_any _ (by rfl) (.tmp 70) (.tmp 73) _ (by rfl) w8.heap.size 43 i0 _ 2 16 Try.underlying50 HI0.out HZ0.out hz1 hz2 rfl (by omega) (.slice (some ⟨w8.heap.size, 0, none⟩) 0 0) (0) ([]) (by rfl) HE0.out.drew _ (some ⟨gl, 0, none⟩) (q4) _ (hdlsV ((live ++ [(s3, u3)]).take q4)) (by rfl) (HR1.out _ HBL.out) (hdlsV_oneCell _) (by unfold maxLen; omega) (by omega) (HBL.out).size ?_
              intro v9 w9 ho_w9 hg_w9 hat_w9
              rw [Nat.zero_add, List.nil_append] at ho_w9
              obtain ⟨A9, c9, rfl⟩ := own_form ho_w9
              have hb_w9 : Below w8.heap.size w8 w9 := (HBL.out).grown hg_w9 (HBL.out).size (fun g e => ((HE0.out.drew).lt g e).1)
              have HB_w9 := Lib.hid hb_w9
              have HO_w9 := Lib.hid ho_w9
              clear ho_w9 hg_w9 hat_w9 hb_w9
              refine hK.out _ _ trivial (fun hHeld => ?_)
              clear hK K
              conv => arg 8; simp only [Act.put, List.setIfInBounds_toArray, List.set_cons_zero, List.set_cons_succ]
              refine wpAnyH_ready (rs := [9]) (by kernel_rfl) (by simp) ?_
              refine AllReadyH.cons (o := ⟨some 79, _, _, _, _, _⟩) rfl (fun K hK => ?_) AllReadyH.nil
              refine step_append_any _ (by rfl) (.tmp 74) (.tmp 78) _ (by rfl) w8.heap.size 43 i0 _ 2 16 Try.underlying50 HI0.out HZ0.out hz1 hz2 rfl (by omega) (.slice A9 q4 c9) (q4) (hdlsV ((live ++ [(s3, u3)]).take q4)) (by rfl) HO_w9.out _ (some ⟨gl, 0, none⟩) (0) 0 ([]) (by rfl) (Reads.none_ (B := 0) (A := some ⟨gl, 0, none⟩)) (by simp) (by unfold maxLen; omega) (by omega) (HB_w9.out).size ?_
              intro v10 w10 ho_w10 hg_w10 hat_w10
              rw [Nat.add_zero, List.append_nil] at ho_w10
              obtain ⟨A10, c10, rfl⟩ := own_form ho_w10
              have hb_w10 : Below w8.heap.size w8 w10 := (HB_w9.out).grown hg_w10 (HB_w9.out).size (fun g e => ((HO_w9.out).lt g e).1)
              have HB_w10 := Lib.hid hb_w10
              have HO_w10 := Lib.hid ho_w10
              clear ho_w10 hg_w10 hat_w10 hb_w10
              refine hK.out _ _ trivial (fun hHeld => ?_)
              clear hK K
              conv => arg 8; simp only [Act.put, List.setIfInBounds_toArray, List.set_cons_zero, List.set_cons_succ]
              refine wpAnyH_take (i := 10) (oi := ⟨some 5, _, _, _, _, _⟩) (v := ?_) rfl (by kernel_rfl) (by kernel_rfl) (by kernel_rfl) (fun _ _ _ h => h) (Or.inl ⟨by kernel_rfl, ?_⟩) hHeld ?_
              rotate_left
              · intro w hSw
                (try dsimp only at hSw)
                go_simp
                all_goals (with_reducible rfl)
              conv => arg 8; simp only [Act.put, List.setIfInBounds_toArray, List.set_cons_zero, List.set_cons_succ]
              refine wpAnyH_done (by kernel_rfl) ?_ _
              refine NoPanic.normal ?_
              have ho : w10.ownsRow w8.heap.size 43 2 (.slice A10 q4 c10) (lack (live ++ [(s3, u3)]) q4).length (hdlsV (lack (live ++ [(s3, u3)]) q4)) := by
                rw [hdlsV_lack, show (lack (live ++ [(s3, u3)]) q4).length = q4 by rw [HLK.out]; omega, hee.out (by first | rfl | trivial)]
                simpa [hdlsV] using HO_w10.out
              have HS10 := Lib.hid (HS8.out.fresh (live' := lack (live ++ [(s3, u3)]) q4) HB_w10.out ho)
              clear hHeld ho
              have hleW := HS10.out.le
              have hdW := HP7.out.dl
              have hdlW := HD8.out
              go_wp2_with fail
              go_loopw [82] (fun i wr => ∃ y : Nat, y ≤ d8 ∧ i = .int .i64 (y : Int) ∧ Below w10.heap.size w10 wr) (fun i _ => d8 - (intOf i).toNat)
              case atStart => exact ⟨0, by omega, rfl, Below.refl _ _⟩
              case round =>
                obtain ⟨y, hy, rfl, hby⟩ := hrel
                have HSY := Lib.hid (HS10.out.below hby)
                have HBY := Lib.hid hby
                clear hby
                rcases Nat.lt_or_ge y (d8) with hly | hgy
                · have t21 : (y : Int) < ((d8 : Nat) : Int) := by omega
                  have t22 : (0 : Int) ≤ y := by omega
                  obtain ⟨xd, hxd⟩ : ∃ xx, ((dead ++ [x]))[y]? = some xx := ⟨_, List.getElem?_eq_getElem (by omega)⟩
                  have hdr := HSY.out.dr
                  rw [← hdlW] at hdr
                  obtain ⟨gd, hAd, k0, k1, hgl⟩ := hdls_cell hdr hxd
                  subst hAd
                  have HXD := Lib.hid (List.mem_of_getElem? hxd)
                  clear hdr hxd
                  go_upto_region 22 with (fail)
                  generalize hwb : World.alloc _ _ = wz
                  have hbz : Below wr.heap.size wr wz := by rw [← hwb]; exact (Below.refl _ _).alloc (Nat.le_refl _) _
                  have hkz : Blk wz wr.heap.size 43 #[.int .i64 (xd.1 : Int), .int .i64 (xd.2 : Int)] := by rw [← hwb]; exact heap_alloc_new _ _
                  have HSZ := Lib.hid (HSY.out.below hbz)
                  have k2 : wz.cell? ⟨wr.heap.size, 0, none⟩ = some (.int .i64 (xd.1 : Int)) := hkz.cell 0
                  have k3 : wz.cell? ⟨wr.heap.size, 1, none⟩ = some (.int .i64 (xd.2 : Int)) := hkz.cell 1
                  have HBZ := Lib.hid (HBY.out.trans (hbz.mono HBY.out.size))
                  clear k0 k1 hwb hbz hkz
                  go_wp2_with fail
                  refine (st_get wa B C B n _ _ _ _ _ _ wz HSZ.out HP7.out (by omega) xd HXD.out).mono ?_
                  rintro e wg ⟨rfl, hbg⟩
                  have qs := box_sto wg ent0 (.slice none 0 0) (.slice none 0 0) (entCells_one rfl rfl)
                  have HBG := Lib.hid (HBZ.out.trans (hbg.mono HBZ.out.size))
                  clear hbg k2 k3
                  go_upto_region 23 with (fail)
                  generalize hwb : storeMid _ _ _ = wh
                  have hbx := box_end hwb
                  have HBH := Lib.hid (HBG.out.trans (hbx.1.mono HBG.out.size))
                  clear qs hwb hbx
                  go_wp2_with fail
                  go_roundw
                  case rel => exact ⟨y + 1, by omega, by go_num, HBH.out⟩
                  case measure => simp [intOf]; omega
                · obtain rfl : d8 = y := by omega
                  have t21 : ¬ (((d8 : Nat) : Int)) < ((d8 : Nat) : Int) := by omega
                  go_wp2_with fail
                  go_roundw
                  case rel => exact ⟨_, _, (dead ++ [x]), N + 2 + 1, HSY.out, HP7.out, by omega⟩
                  case measure =>
                    show n - numC _ B < n - numC _ B
                    rw [HSY.out.num.numC, hNC.out]
                    omega
          · have t3 : ¬ (q2 : Int) = 0 := by omega
            have t3' : ((q2 : Int) == 0) = false := by simp; omega
            have hleW := HS5.out.le
            have hdW := HP5.out.dl
            have hdlW := HDL.out
            go_wp2_with fail
            go_loopw [82] (fun i wr => ∃ y : Nat, y ≤ dl ∧ i = .int .i64 (y : Int) ∧ Below w5.heap.size w5 wr) (fun i _ => dl - (intOf i).toNat)
            case atStart => exact ⟨0, by omega, rfl, Below.refl _ _⟩
            case round =>
              obtain ⟨y, hy, rfl, hby⟩ := hrel
              have HSY := Lib.hid (HS5.out.below hby)
              have HBY := Lib.hid hby
              clear hby
              rcases Nat.lt_or_ge y (dl) with hly | hgy
              · have t21 : (y : Int) < ((dl : Nat) : Int) := by omega
                have t22 : (0 : Int) ≤ y := by omega
                obtain ⟨xd, hxd⟩ : ∃ xx, (dead)[y]? = some xx := ⟨_, List.getElem?_eq_getElem (by omega)⟩
                have hdr := HSY.out.dr
                rw [← hdlW] at hdr
                obtain ⟨gd, hAd, k0, k1, hgl⟩ := hdls_cell hdr hxd
                subst hAd
                have HXD := Lib.hid (List.mem_of_getElem? hxd)
                clear hdr hxd
                go_upto_region 22 with (fail)
                generalize hwb : World.alloc _ _ = wz
                have hbz : Below wr.heap.size wr wz := by rw [← hwb]; exact (Below.refl _ _).alloc (Nat.le_refl _) _
                have hkz : Blk wz wr.heap.size 43 #[.int .i64 (xd.1 : Int), .int .i64 (xd.2 : Int)] := by rw [← hwb]; exact heap_alloc_new _ _
                have HSZ := Lib.hid (HSY.out.below hbz)
                have k2 : wz.cell? ⟨wr.heap.size, 0, none⟩ = some (.int .i64 (xd.1 : Int)) := hkz.cell 0
                have k3 : wz.cell? ⟨wr.heap.size, 1, none⟩ = some (.int .i64 (xd.2 : Int)) := hkz.cell 1
                have HBZ := Lib.hid (HBY.out.trans (hbz.mono HBY.out.size))
                clear k0 k1 hwb hbz hkz
                go_wp2_with fail
                refine (st_get wa B C B n _ _ _ _ _ _ wz HSZ.out HP5.out (by omega) xd HXD.out).mono ?_
                rintro e wg ⟨rfl, hbg⟩
                have qs := box_sto wg ent0 (.slice none 0 0) (.slice none 0 0) (entCells_one rfl rfl)
                have HBG := Lib.hid (HBZ.out.trans (hbg.mono HBZ.out.size))
                clear hbg k2 k3
                go_upto_region 23 with (fail)
                generalize hwb : storeMid _ _ _ = wh
                have hbx := box_end hwb
                have HBH := Lib.hid (HBG.out.trans (hbx.1.mono HBG.out.size))
                clear qs hwb hbx
                go_wp2_with fail
                go_roundw
                case rel => exact ⟨y + 1, by omega, by go_num, HBH.out⟩
                case measure => simp [intOf]; omega
              · obtain rfl : dl = y := by omega
                have t21 : ¬ (((dl : Nat) : Int)) < ((dl : Nat) : Int) := by omega
                go_wp2_with fail
                go_roundw
                case rel => exact ⟨_, _, dead, N + 2, HSY.out, HP5.out, by omega⟩
                case measure =>
                  show n - numC _ B < n - numC _ B
                  rw [HSY.out.num.numC, hNC.out]
                  omega
    · have t1 : ¬ (N : Int) < n := by omega
      have hln := rlen_any wr B C m HS.out.slb
      rw [HP.out.cnt, HLL.out] at hln
      have HLN := Lib.hid hln
      clear hln
      go_wp2_with fail
      refine HLN.out.mono ?_
      rintro e w8 ⟨rfl, rfl⟩
      go_wp2_with fail
      refine (known_any _).mono ?_
      rintro e w9 ⟨rfl, hb9⟩
      have HB9 := Lib.hid ((HB0.out.trans (HS.out.bel.mono hwB)).trans (hb9.mono (Nat.le_trans hwB HS.out.le)))
      clear hb9
      go_wp2_with fail
      go_ret
      exact ⟨rfl, HB9.out⟩
end Go.Proofs.Ytnihkjhejjeepaa
