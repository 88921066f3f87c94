/- BlockEncodes. -/
import Derived.Test.YtnhggaghidbniaaBlkG
import Derived.Great.BuildSlice
namespace Go.Proofs.Ytnhggaghidbniaa
open Go.RowKit
set_option linter.unusedVariables false
set_option linter.unusedSimpArgs false
open Wir ShaW Sha
set_option maxRecDepth 100000

theorem bl_info : ∃ ie, Try.prog.info? 28 = some ie ∧ ie.zero = some (.agg Try.zeroCells28) ∧ ie.size = 132 := by
  have h : (Try.prog.info? 28).map (fun i => (i.zero, i.size)) = some (some (.agg Try.zeroCells28), 132) := by kernel_rfl
  obtain ⟨ie, h1, h2⟩ := Option.map_eq_some_iff.1 h
  injection h2 with h3 h4
  exact ⟨ie, h1, h3, h4⟩
def bl3 (x y z : Hd) (tv : Value) : List Value := blCells x tv ++ (blCells y tv ++ blCells z tv)
theorem bl_fill3 (x y z : Hd) (A : Option Addr) (n c : Nat) (ie : TypeInfo) (hs : ie.size = 132) : Instr.fill (fun i => some (i * ie.size, ie.size)) ((Array.range (3 * ie.size)).map ((Value.agg Try.zeroCells28).cells[· % (Value.agg Try.zeroCells28).cells.size]!)) [(0, blV x (.slice A n c)), (1, blV y (.slice A n c)), (2, blV z (.slice A n c))] = some (bl3 x y z (.slice A n c)).toArray := by
  rw [hs]
  kernel_rfl
def at3 (x y z : Hd) (k : Nat) : Hd := match k with | 0 => x | 1 => y | _ => z
theorem at3_fits {x y z : Hd} (hx : x.fits) (hy : y.fits) (hz : z.fits) (k : Nat) : (at3 x y z k).fits := by
  unfold at3
  split <;> assumption
theorem at3_cell (x y z : Hd) (tv : Value) {k : Nat} (hk : k < 3) {j : Nat} {u : Value} (h : (blCells (at3 x y z k) tv)[j]? = some u) : (bl3 x y z tv)[k * 132 + j]? = some u := by
  have hj : j < 132 := by have := (List.getElem?_eq_some_iff.1 h).1; rw [blCells_len] at this; exact this
  unfold bl3
  match k, hk with
  | 0, _ =>
    rw [List.getElem?_append_left (by rw [blCells_len]; omega), Nat.zero_mul, Nat.zero_add]
    exact h
  | 1, _ =>
    rw [List.getElem?_append_right (by rw [blCells_len]; omega), blCells_len, List.getElem?_append_left (by rw [blCells_len]; omega), show 1 * 132 + j - 132 = j by omega]
    exact h
  | 2, _ =>
    rw [List.getElem?_append_right (by rw [blCells_len]; omega), blCells_len, List.getElem?_append_right (by rw [blCells_len]; omega), blCells_len, show 2 * 132 + j - 132 - 132 = j by omega]
    exact h
theorem at3_range {w : World} {g : Nat} {t : TypeId} {x y z : Hd} {tv : Value} (h : Blk w g t (bl3 x y z tv).toArray) {k : Nat} (hk : k < 3) : w.rangeAt g (k * 132) (blCells (at3 x y z k) tv) := fun j u hu => by
  rw [h.cell]
  exact List.getElem?_toArray.trans (at3_cell x y z tv hk hu)
def BlS (g : Nat) (x : Hd) (tv : Value) (w' : World) : Prop := w'.rangeAt g 0 (blCells x tv)
theorem BlS.below {g : Nat} {x : Hd} {tv : Value} {w w' : World} (h : BlS g x tv w) (hb : Below w.heap.size w w') : BlS g x tv w' :=
  fun j u hu => (hb.cell (p := ⟨g, 0 + j, none⟩) (World.block_lt_of_cell? w _ (h j u hu))).trans (h j u hu)
theorem encB_fits {x : Hd} {txs : List (List UInt8)} (h : encE x txs = 0) : (form x txs).length ≤ 2097152 := by
  unfold encE at h
  split at h
  · cases h
  · split at h
    · cases h
    · split at h
      · cases h
      · omega
theorem below_one {w : World} {c : Array Value} {t : TypeId} : Below w.heap.size w (w.alloc (.cells c t)) := (Below.refl _ _).alloc (Nat.le_refl _) _
set_option maxHeartbeats 8000000 in
attribute [local go_sem ↓] wp_load_hd wp_store_hd wp_load_bl wp_store_bl in
theorem blockEncodes_any (w : World) (x : Hd) (hx : x.fits) (tv : Value) (txs : List (List UInt8)) (ht : TxsAt w tv txs) (hsz : lenSum txs + txs.length ≤ 4611686018427387904) (how : Int) (h1 : -9223372036854775808 ≤ how) (h2 : how ≤ 9223372036854775807) :
    Calls Try.prog 3 #[blV x tv, .int .i64 how] w fun e w' => e = .returned (.bool true) ∧ Below w.heap.size w w' := by
  obtain ⟨cb, hcb⟩ : ∃ cb, (blCells x tv).toArray = cb := ⟨_, rfl⟩
  have o1 := ht.oneCell
  show Calls _ _ #[.agg (blCells x tv).toArray, _] _ _
  rw [hcb]
  have HCB := Lib.hid hcb
  have HO := Lib.hid o1
  have HT := Lib.hid ht
  have HX := Lib.hid hx
  have HSZ := Lib.hid hsz
  have HW1 := Lib.hid h1
  have HW2 := Lib.hid h2
  clear hcb ht hx hsz o1 h1 h2
  go_enter Try.func3, Try.ntmps3
  go_upto_region 1 with (fail)
  generalize hw1 : World.alloc _ _ = w1
  have hb1 : Below w.heap.size w w1 := by rw [← hw1]; exact below_one
  have hk1 : Blk w1 w.heap.size 28 (blCells x tv).toArray := by rw [← hw1, HCB.out]; exact heap_alloc_new _ _
  obtain ⟨g, hg⟩ : ∃ g, w.heap.size = g := ⟨_, rfl⟩
  rw [hg] at hk1
  rw [show (⟨w.heap.size, 0, none⟩ : Addr) = ⟨g, 0, none⟩ by rw [hg]]
  have HB1 := Lib.hid hb1
  have HT1 := Lib.hid (HT.out.below hb1)
  have HST : Hid (BlS g x tv w1) := Lib.hid (bl_rangeAll hk1)
  clear hw1 hb1 hk1 hg HT
  have hrg : w1.rangeAt g 0 (blCells x tv) := HST.out
  have q1 := aggOk_mk hrg (blCells_len _ _)
  have q2 := loadN_eq hrg (blCells_len _ _)
  clear hrg
  obtain ⟨nn, hnn⟩ : ∃ nn, txs.length + lenSum txs = nn := ⟨_, rfl⟩
  have HNN := Lib.hid hnn
  go_wp2_with fail
  refine (small_any w1 x tv txs HT1.out HSZ.out).mono ?_
  rintro e w2 ⟨rfl, hb2⟩
  rw [hnn]
  have HB2 := Lib.hid (HB1.out.trans (hb2.mono HB1.out.size))
  have HT2 := Lib.hid (HT1.out.below hb2)
  have HK2 := Lib.hid (HST.out.below hb2)
  clear hb2 hnn q1 q2 HB1 HT1 HST
  by_cases hsm : nn < 300
  case neg =>
    rw [decide_eq_false hsm]
    clear hsm HNN
    go_wp2_with fail
    refine (known_any w2).mono ?_
    rintro e w3 ⟨rfl, hb3⟩
    have HB3 := Lib.hid (HB2.out.trans (hb3.mono HB2.out.size))
    clear hb3
    go_wp2_with fail
    go_ret
    exact ⟨rfl, HB3.out⟩
  rw [decide_eq_true hsm]
  have HSUM : Hid (txs.length ≤ 512 → txsSum txs ≤ 999999000) := Lib.hid (fun _ => by rw [lenSum_txs]; have := HNN.out; omega)
  clear hsm HNN HSZ
  go_upto_region 3 with (fail)
  have hKS := HK2.out
  have hu := Try.underlying28
  have ix := bl_sizeB x tv
  obtain ⟨ie, hie, hze, hse⟩ := bl_info
  have HIE := Lib.hid hie
  have HZE := Lib.hid hze
  have HSE := Lib.hid hse
  clear hie hze hse
  refine wp_region_noPanic ?_
  refine wp_region_held_drew (S := BlS g x tv) (by kernel_rfl) hKS (fun hHeld => ?_)
  refine wpAnyH_take (i := 0) (oi := ⟨some 17, _, _, _, _, _⟩) (v := _) rfl (by kernel_rfl) (by kernel_rfl) (by kernel_rfl) (fun _ _ _ h => h) (yieldsIf_load_mid (S := BlS g x tv) (by kernel_rfl) _ _ rfl _ _ rfl _ _ (fun w hSw => hSw) hu rfl ix) hHeld ?_
  conv => arg 8; simp only [Act.put, List.setIfInBounds_toArray, List.set_cons_zero, List.set_cons_succ]
  refine wpAnyH_take (i := 1) (oi := ⟨some 18, _, _, _, _, _⟩) (v := _) rfl (by kernel_rfl) (by kernel_rfl) (by kernel_rfl) (fun _ _ _ h => h) (yieldsIf_load_mid (S := BlS g x tv) (by kernel_rfl) _ _ rfl _ _ rfl _ _ (fun w hSw => hSw) hu rfl ix) hHeld ?_
  conv => arg 8; simp only [Act.put, List.setIfInBounds_toArray, List.set_cons_zero, List.set_cons_succ]
  refine wpAnyH_take (i := 2) (oi := ⟨some 19, _, _, _, _, _⟩) (v := ?_) rfl (by kernel_rfl) (by kernel_rfl) (by kernel_rfl) (fun _ _ _ h => h) (Or.inl ⟨by kernel_rfl, ?_⟩) hHeld ?_
  rotate_left
  · intro w hSw
    (try dsimp only at hSw)
    go_simp
    all_goals (with_reducible rfl)
  conv => arg 8; simp only [Act.put, List.setIfInBounds_toArray, List.set_cons_zero, List.set_cons_succ]
  refine wpAnyH_take (i := 8) (oi := ⟨some 25, _, _, _, _, _⟩) (v := ?_) rfl (by kernel_rfl) (by kernel_rfl) (by kernel_rfl) (fun _ _ _ h => h) (Or.inl ⟨by kernel_rfl, ?_⟩) hHeld ?_
  rotate_left
  · intro w hSw
    (try dsimp only at hSw)
    go_simp
    all_goals (with_reducible rfl)
  conv => arg 8; simp only [Act.put, List.setIfInBounds_toArray, List.set_cons_zero, List.set_cons_succ]
  refine wpAnyH_take (i := 4) (oi := ⟨some 21, _, _, _, _, _⟩) (v := _) rfl (by kernel_rfl) (by kernel_rfl) (by kernel_rfl) (fun _ _ _ h => h) (yieldsIf_load_mid (S := BlS g x tv) (by kernel_rfl) _ _ rfl _ _ rfl _ _ (fun w hSw => hSw) hu rfl ix) hHeld ?_
  conv => arg 8; simp only [Act.put, List.setIfInBounds_toArray, List.set_cons_zero, List.set_cons_succ]
  refine wpAnyH_ready (rs := [3]) (by kernel_rfl) (by simp) ?_
  refine AllReadyH.cons (o := ⟨some 20, _, _, _, _, _⟩) rfl (fun K hK => ?_) AllReadyH.nil
  go_simp
  go_at_call 10
  (with_reducible refine (near_any _ x HX.out tv HO.out how HW1.out HW2.out).mono ?_)
  rintro e w3 ⟨y, hyf, rfl, hb3⟩
  have HYF := Lib.hid hyf
  have HD3 := Lib.hid (below_step (a := w2) (belowDrewR (Below.refl _ _)) hb3)
  clear hb3 hyf
  refine hK.out _ _ (HK2.out.below HD3.out) (fun hHeld => ?_)
  clear hK K
  conv => arg 8; simp only [Act.put, List.setIfInBounds_toArray, List.set_cons_zero, List.set_cons_succ]
  refine wpAnyH_ready (rs := [5]) (by kernel_rfl) (by simp) ?_
  refine AllReadyH.cons (o := ⟨some 22, _, _, _, _, _⟩) rfl (fun K hK => ?_) AllReadyH.nil
  go_simp
  go_at_call 10
  (with_reducible refine (near_any _ x HX.out tv HO.out 0 (by omega) (by omega)).mono ?_)
  rintro e w4 ⟨z, hzf, rfl, hb4⟩
  have HZF := Lib.hid hzf
  have HD4 := Lib.hid (HD3.out.trans (hb4.mono HD3.out.size))
  clear hb4 hzf
  refine hK.out _ _ (HK2.out.below HD4.out) (fun hHeld => ?_)
  clear hK K
  conv => arg 8; simp only [Act.put, List.setIfInBounds_toArray, List.set_cons_zero, List.set_cons_succ]
  refine wpAnyH_ready (rs := [6]) (by kernel_rfl) (by simp) ?_
  refine AllReadyH.cons (o := ⟨some 23, _, _, _, _, _⟩) rfl (fun K hK => ?_) AllReadyH.nil
  obtain ⟨A, c, htv, _⟩ := HT2.out
  refine wp_buildSlice 32 28 3 _ rfl (bl3 x y z tv).toArray ie _ Try.underlying32 HIE.out HZE.out (by rw [HSE.out]; decide) (by rw [HSE.out]; decide) (by simp only [List.map_toArray, List.map_cons, List.map_nil]; rw [htv]; exact bl_fill3 x y z A _ c ie HSE.out) ?_
  clear htv
  generalize hw5 : World.alloc _ _ = w5
  have hb5 : Below w4.heap.size w4 w5 := by rw [← hw5]; exact below_one
  have hk5 : Blk w5 w4.heap.size 28 (bl3 x y z tv).toArray := by rw [← hw5]; exact heap_alloc_new _ _
  obtain ⟨g5, hg5⟩ : ∃ g5, w4.heap.size = g5 := ⟨_, rfl⟩
  rw [hg5] at hk5 ⊢
  have HD5 := Lib.hid (HD4.out.trans (hb5.mono HD4.out.size))
  have HB5 := Lib.hid (HB2.out.trans (HD5.out.mono HB2.out.size))
  have HK5 := Lib.hid hk5
  have HT5 := Lib.hid (HT2.out.below HD5.out)
  clear hw5 hb5 hk5 hg5
  refine hK.out _ _ (HK2.out.below HD5.out) (fun hHeld => ?_)
  clear hK K
  conv => arg 8; simp only [Act.put, List.setIfInBounds_toArray, List.set_cons_zero, List.set_cons_succ]
  refine wpAnyH_take (i := 7) (oi := ⟨some 24, _, _, _, _, _⟩) (v := ?_) rfl (by kernel_rfl) (by kernel_rfl) (by kernel_rfl) (fun _ _ _ h => h) (Or.inl ⟨by kernel_rfl, ?_⟩) hHeld ?_
  rotate_left
  · intro w hSw
    (try dsimp only at hSw)
    go_simp
    all_goals (with_reducible rfl)
  conv => arg 8; simp only [Act.put, List.setIfInBounds_toArray, List.set_cons_zero, List.set_cons_succ]
  refine wpAnyH_done (by kernel_rfl) ?_ _
  refine NoPanic.normal ?_
  go_wp2_with fail
  go_loopw [25] (fun i wr => ∃ k : Nat, k ≤ 3 ∧ i = .int .i64 (k : Int) ∧ Below w5.heap.size w5 wr) (fun i _ => 3 - (intOf i).toNat)
  case atStart => exact ⟨0, by omega, rfl, Below.refl _ _⟩
  case round =>
    obtain ⟨k, hk, rfl, hb⟩ := hrel
    by_cases hlt : k < 3
    case neg =>
      obtain rfl : k = 3 := by omega
      have HB6 := Lib.hid (HB5.out.trans (hb.mono HB5.out.size))
      clear hb hlt hk
      go_wp2_with fail
      refine (known_any wr).mono ?_
      rintro e w7 ⟨rfl, hb7⟩
      have HB7 := Lib.hid (HB6.out.trans (hb7.mono HB6.out.size))
      clear hb7
      go_wp2_with fail
      go_ret
      exact ⟨rfl, HB7.out⟩
    have hxf : (at3 x y z k).fits := at3_fits HX.out HYF.out HZF.out k
    have hrg0 := at3_range HK5.out hlt
    obtain ⟨xk, hxk⟩ : ∃ xk, at3 x y z k = xk := ⟨_, rfl⟩
    rw [hxk] at hxf hrg0
    have hrg : wr.rangeAt g5 (k * 132) (blCells xk tv) := rangeAt_belowG hrg0 hb
    have q1 := aggOk_mk hrg (blCells_len _ _)
    have q2 := loadN_eq hrg (blCells_len _ _)
    have qs := bl_sto wr (blCells xk tv) (blCells_len _ _) (blCells_one HO.out)
    have hki : (k : Int) < 3 := by omega
    have HB6 := Lib.hid hb
    have HT6 := Lib.hid (HT5.out.below hb)
    have HXF := Lib.hid hxf
    clear hxk hxf hrg0 hrg hb
    go_upto_region 6 with (fail)
    generalize hw6 : storeMid _ _ _ = w6
    obtain ⟨hbn, hhn⟩ := bl_end (blCells_len _ _) hw6
    obtain ⟨gx, hgx⟩ : ∃ gx, wr.heap.size = gx := ⟨_, rfl⟩
    rw [hgx] at hhn ⊢
    have HB7 := Lib.hid (HB6.out.trans (hbn.mono HB6.out.size))
    have HT7 := Lib.hid (HT6.out.below hbn)
    have HS7 : Hid (BlS gx xk tv w6) := Lib.hid (bl_rangeAll hhn)
    clear hw6 hbn hhn hgx qs q1 q2 HB6 HT6
    obtain ⟨ec, hec⟩ : ∃ ec, encE xk txs = ec := ⟨_, rfl⟩
    obtain ⟨F, hF⟩ : ∃ F, encB xk txs = F := ⟨_, rfl⟩
    have HEC := Lib.hid hec
    have HF := Lib.hid hF
    clear hec hF
    have hrg : w6.rangeAt gx 0 (blCells xk tv) := HS7.out
    have q1 := aggOk_mk hrg (blCells_len _ _)
    have q2 := loadN_eq hrg (blCells_len _ _)
    clear hrg
    go_wp2_with fail
    refine (benc_see w6 xk HXF.out tv txs HT7.out HSUM.out).mono ?_
    rintro e w7 ⟨hbn, p1, rfl, hv1⟩
    rw [HEC.out]
    rw [HF.out] at hv1
    have HB8 := Lib.hid (HB7.out.trans (hbn.mono HB7.out.size))
    have HT8 := Lib.hid (HT7.out.below hbn)
    have HS8 := Lib.hid (HS7.out.below hbn)
    have HV1 := Lib.hid hv1
    clear hbn hv1 q1 q2 HB7 HT7 HS7
    have hrg : w7.rangeAt gx 0 (blCells xk tv) := HS8.out
    have q1 := aggOk_mk hrg (blCells_len _ _)
    have q2 := loadN_eq hrg (blCells_len _ _)
    clear hrg
    go_wp2_with fail
    refine (renc_see w7 xk HXF.out tv txs HT8.out HSUM.out).mono ?_
    rintro e w8 ⟨hbn, p2, rfl, hv2⟩
    rw [HEC.out]
    rw [HF.out] at hv2
    have HB9 := Lib.hid (HB8.out.trans (hbn.mono HB8.out.size))
    have HT9 := Lib.hid (HT8.out.below hbn)
    have HS9 := Lib.hid (HS8.out.below hbn)
    have HV1b := Lib.hid (HV1.out.below hbn)
    have HV2 := Lib.hid hv2
    clear hbn hv2 q1 q2 HB8 HT8 HS8 HV1
    have ne1 : (ec != ec) = false := by simp
    go_wp2_with fail
    refine (same_bytes HV1b.out HV2.out).mono ?_
    rintro e w9 ⟨rfl, rfl⟩
    rw [decide_eq_true rfl]
    by_cases he0 : ec = 0
    case neg =>
      have eq0 : (ec == 0) = false := by simpa using he0
      go_wp2_with fail
      go_roundw
      case rel => exact ⟨k + 1, by omega, by go_num, HB9.out⟩
      case measure => simp [intOf]; omega
    subst he0
    have HDE : Hid (decE F = 0 ∧ F.length ≤ 1073741824 ∧ ∃ y, hdCells y = hdCells xk ∧ decB F = (y, txs)) := Lib.hid (by
      have h0 := HEC.out
      have hf := HF.out
      unfold encB at hf
      rw [if_pos h0] at hf
      obtain ⟨y, hy, hs⟩ := decode_encode HXF.out h0
      have hl := encB_fits h0
      rw [hf] at hy hl
      obtain ⟨a1, a2⟩ := decE_ok hy
      exact ⟨a1, by omega, y, same_cells hs, a2⟩)
    obtain ⟨hd1, hd2, yk, hd3, hd4⟩ := HDE.out
    have HD2 := Lib.hid hd2
    have HD3 := Lib.hid hd3
    have HD4 := Lib.hid hd4
    clear hd2 hd3 hd4 HDE HEC HF ne1
    go_wp2_with fail
    refine (bdec_see w8 p1 F HV1b.out HD2.out).mono ?_
    rintro e w10 ⟨hbn, tv3, rfl, htn⟩
    rw [hd1]
    rw [HD4.out] at htn ⊢
    have qs := bl_sto w10 (blCells yk tv3) (blCells_len _ _) (blCells_one htn.oneCell)
    have HB10 := Lib.hid (HB9.out.trans (hbn.mono HB9.out.size))
    have HT10 := Lib.hid (HT9.out.below hbn)
    have HS10 := Lib.hid (HS9.out.below hbn)
    have HU10 := Lib.hid htn
    clear hbn htn hd1 HB9 HT9 HS9 HV1b HV2 HD4
    go_upto_region 12 with (fail)
    generalize hwn : storeMid _ _ _ = w11
    obtain ⟨hbn, hhn⟩ := bl_end (blCells_len _ _) hwn
    obtain ⟨gy, hgy⟩ : ∃ gy, w10.heap.size = gy := ⟨_, rfl⟩
    rw [hgy] at hhn ⊢
    have HB11 := Lib.hid (HB10.out.trans (hbn.mono HB10.out.size))
    have HT11 := Lib.hid (HT10.out.below hbn)
    have hr1 : w11.rangeAt gx 0 (blCells xk tv) := HS10.out.below hbn
    have hr2 := bl_rangeAll hhn
    have HU11 := Lib.hid (HU10.out.below hbn)
    have q1 := aggOk_mk hr1 (blCells_len _ _)
    have q2 := loadN_eq hr1 (blCells_len _ _)
    have q3 := aggOk_mk hr2 (blCells_len _ _)
    have q4 := loadN_eq hr2 (blCells_len _ _)
    clear hwn hbn hhn hgy qs hr1 hr2 HB10 HT10 HS10 HU10
    go_wp2_with fail
    refine (same_block w11 xk yk tv tv3 txs HD3.out HT11.out HU11.out).mono ?_
    rintro e w12 ⟨rfl, hb12⟩
    have HB12 := Lib.hid (HB11.out.trans (hb12.mono HB11.out.size))
    clear hb12 q1 q2 q3 q4
    go_wp2_with fail
    go_roundw
    case rel => exact ⟨k + 1, by omega, by go_num, HB12.out⟩
    case measure => simp [intOf]; omega
end Go.Proofs.Ytnhggaghidbniaa
