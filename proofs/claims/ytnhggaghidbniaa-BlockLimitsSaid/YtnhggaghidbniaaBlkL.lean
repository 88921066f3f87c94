/- BlockLimits. -/
import Derived.Test.YtnhggaghidbniaaBlkJ
namespace Go.Proofs.Ytnhggaghidbniaa
open Go.RowKit
set_option linter.unusedVariables false
set_option linter.unusedSimpArgs false
open Wir ShaW Sha
set_option maxRecDepth 100000

def xL : Hd := ⟨1, 1, 0, fun _ => 0, fun _ => 0, fun _ => 0, fun _ => 0⟩
theorem xL_fits : xL.fits := ⟨⟨by decide, by decide⟩, ⟨by decide, by decide⟩, ⟨by decide, by decide⟩⟩
theorem built_xL : Try.prog.built 25 [(0, .int .i64 1), (1, .int .i64 1)] = some (hdCells xL).toArray := by kernel_rfl
theorem built_blL (A : Option Addr) (n c : Nat) : Try.prog.built 28 [(0, hdV xL), (1, .slice A n c)] = some (blCells xL (.slice A n c)).toArray := by kernel_rfl
def txL (m : Nat) : List (List UInt8) := List.replicate m []
theorem txL_len0 : ∀ m : Nat, lenSum (txL m) = 0
  | 0 => rfl
  | m + 1 => by
    have ih := txL_len0 m
    unfold lenSum txL at ih ⊢
    rw [List.replicate_succ, List.map_cons, List.sum_cons, ih]
    rfl
theorem txL_sum (m : Nat) : txsSum (txL m) = 20 * m := by
  rw [lenSum_txs, txL_len0]
  unfold txL
  rw [List.length_replicate]
  omega
theorem txL_msg : ∀ m : Nat, (msg ((txL m).map (bytF 2))).length = 2 * m
  | 0 => rfl
  | m + 1 => by
    have ih := txL_msg m
    unfold txL at ih ⊢
    rw [List.replicate_succ, List.map_cons, msg_cons, List.length_append, ih]
    have : (enc (bytF 2 [])).length = 2 := by
      unfold enc bytF
      simp only [if_neg (show ¬ (2 : Int) = 0 by omega), List.length_append, List.length_nil]
      rw [vint_lt (show (8 * (2 : Int) + 2).toNat < 128 by decide), vint_lt (show 0 < 128 by omega)]
      rfl
    omega
theorem encE_L {m : Nat} (hm : m ≤ 1024) : encE xL (txL m) = if m ≤ 512 then 0 else 3 := by
  split
  · rename_i h
    refine encE_ok (by decide) (by unfold txL; rw [List.length_replicate]; omega) ?_
    unfold form blkFields
    rw [msg_cons, List.length_append, txL_msg]
    have h1 := headerB_le xL_fits
    have h2 : (enc (bytF 1 (headerB xL))).length ≤ 200 := by
      unfold enc bytF
      simp only [if_neg (show ¬ (1 : Int) = 0 by omega), if_neg (show ¬ (2 : Int) = 0 by omega), List.length_append]
      have a1 := vint_len 0 (8 * (1 : Int) + 2).toNat (by decide)
      have a2 := vint_len 1 (headerB xL).length (by omega)
      omega
    omega
  · exact encE_many (by decide) (by unfold txL; rw [List.length_replicate]; omega)
theorem formL_le {m : Nat} (hm : m ≤ 1024) : (form xL (txL m)).length ≤ 2300 := by
  unfold form blkFields
  rw [msg_cons, List.length_append, txL_msg]
  have h1 := headerB_le xL_fits
  have h2 : (enc (bytF 1 (headerB xL))).length ≤ 200 := by
    unfold enc bytF
    simp only [if_neg (show ¬ (2 : Int) = 0 by omega), List.length_append]
    have a1 := vint_len 0 (8 * (1 : Int) + 2).toNat (by decide)
    have a2 := vint_len 1 (headerB xL).length (by omega)
    omega
  omega
theorem i5_fill (a b c d e : Int) (ie : TypeInfo) (hs : ie.size = 1) : Instr.fill (fun i => some (i * ie.size, ie.size)) ((Array.range (5 * ie.size)).map ((Value.int .i64 0).cells[· % (Value.int .i64 0).cells.size]!)) [(0, .int .i64 a), (1, .int .i64 b), (2, .int .i64 c), (3, .int .i64 d), (4, .int .i64 e)] = some #[.int .i64 a, .int .i64 b, .int .i64 c, .int .i64 d, .int .i64 e] := by
  rw [hs]
  kernel_rfl
theorem i5_at {w : World} {g : Nat} {t : TypeId} (h : Blk w g t #[.int .i64 511, .int .i64 512, .int .i64 513, .int .i64 1023, .int .i64 1024]) {r : Nat} (hr : r < 5) : ∃ m : Nat, 1 ≤ m ∧ m ≤ 1024 ∧ w.cell? ⟨g, r, none⟩ = some (.int .i64 (m : Int)) := by
  match r, hr with
  | 0, _ => exact ⟨511, by omega, by omega, by rw [h.cell]; rfl⟩
  | 1, _ => exact ⟨512, by omega, by omega, by rw [h.cell]; rfl⟩
  | 2, _ => exact ⟨513, by omega, by omega, by rw [h.cell]; rfl⟩
  | 3, _ => exact ⟨1023, by omega, by omega, by rw [h.cell]; rfl⟩
  | 4, _ => exact ⟨1024, by omega, by omega, by rw [h.cell]; rfl⟩
theorem made_at (m : Nat) {j : Nat} (hj : j < m) : (madeCells #[.slice none 0 0] m)[j]? = some (.slice none 0 0) := by
  unfold madeCells
  rw [Array.getElem?_map]
  simp [hj, Nat.mod_one]
theorem txL_at {w : World} {g m : Nat} (hm : m ≤ 1024) (h : Blk w g 33 (madeCells #[.slice none 0 0] m)) : TxsAt w (.slice (some ⟨g, 0, none⟩) m m) (txL m) := by
  have hl : (txL m).length = m := by unfold txL; rw [List.length_replicate]
  refine ⟨some ⟨g, 0, none⟩, m, by rw [hl], by omega, by omega, g, 0, fun _ => rfl, fun j b hj => ?_⟩
  have hjm : j < m := by have := (List.getElem?_eq_some_iff.1 hj).1; omega
  have e : b = [] := by
    unfold txL at hj
    rw [List.getElem?_replicate, if_pos hjm] at hj
    injection hj with hj
    exact hj.symm
  subst e
  exact ⟨.slice none 0 0, by rw [Nat.zero_add, h.cell, made_at m hjm], SeeB.nil w⟩
theorem und_rowsL : Try.prog.underlying 26 = some (.slice (Try.prog.elem 26)) := by kernel_rfl
theorem TxsAt.len_ {w : World} {tv : Value} {txs : List (List UInt8)} (h : TxsAt w tv txs) (W : World) : (Builtin.len_ #[26] 3 #[tv]).run Try.prog W = .ok (.int .i64 (txs.length : Int)) W := by
  obtain ⟨A, c, rfl, _⟩ := h
  exact run_len_slice (h := und_rowsL) ..
def LmS (gb gc gd : Nat) (tv tv3 tv4 : Value) (y : Hd) (w' : World) : Prop := w'.rangeAt gb 0 (blCells xL tv) ∧ w'.rangeAt gc 0 (blCells y tv3) ∧ w'.rangeAt gd 0 (blCells y tv4)
theorem rangeAt_below {w w' : World} {g o : Nat} {l : List Value} (h : w.rangeAt g o l) (hb : Below w.heap.size w w') : w'.rangeAt g o l := fun j u hu => (hb.cell (p := ⟨g, o + j, none⟩) (World.block_lt_of_cell? w _ (h j u hu))).trans (h j u hu)
theorem LmS.below {gb gc gd : Nat} {tv tv3 tv4 : Value} {y : Hd} {w w' : World} (h : LmS gb gc gd tv tv3 tv4 y w) (hb : Below w.heap.size w w') : LmS gb gc gd tv tv3 tv4 y w' := ⟨rangeAt_below h.1 hb, rangeAt_below h.2.1 hb, rangeAt_below h.2.2 hb⟩
theorem LmS.tv_ {gb gc gd : Nat} {tv tv3 tv4 : Value} {y : Hd} {w : World} (h : LmS gb gc gd tv tv3 tv4 y w) : w.cell? ⟨gb, 131, none⟩ = some tv := by
  have h1 := h.1 131 tv (blCells_tv xL tv)
  rwa [Nat.zero_add] at h1
set_option maxHeartbeats 8000000 in
attribute [local go_sem ↓] wp_load_hd wp_store_hd wp_load_bl wp_store_bl in
theorem blockLimits_any (w : World) (n : Int) (h1 : -9223372036854775808 ≤ n) (h2 : n ≤ 9223372036854775807) :
    Calls Try.prog 7 #[.int .i64 n] w fun e w' => e = .returned (.bool true) ∧ Below w.heap.size w w' := by
  obtain ⟨i0, hi0, hz0, hz1, hz2⟩ := info_parts sl_info
  obtain ⟨j0, hj0, hy0, hy1, hy2⟩ := info_parts int_info
  have HI0 := Lib.hid hi0
  have HZ0 := Lib.hid hz0
  have HJ0 := Lib.hid hj0
  have HY0 := Lib.hid hy0
  have n0 := Int.emod_nonneg n (show (5 : Int) ≠ 0 by omega)
  have n1 := Int.emod_lt_of_pos n (show (0 : Int) < 5 by omega)
  obtain ⟨r, hr⟩ : ∃ r : Nat, n % 5 = (r : Int) := ⟨(n % 5).toNat, by omega⟩
  have hr5 : r < 5 := by omega
  have HR := Lib.hid hr
  clear hi0 hz0 hj0 hy0 n0 n1 hr
  go_enter Try.func7, Try.ntmps7
  go_wp2_with (first
    | (refine wpList_buildL rfl 25 [(0, _), (1, _)] rfl (hdCells xL).toArray built_xL ?_)
    | (refine wpList_buildSlice rfl 56 3 5 _ rfl #[.int .i64 511, .int .i64 512, .int .i64 513, .int .i64 1023, .int .i64 1024] j0 _ Try.underlying56 HJ0.out HY0.out (by rw [hy1]; omega) (by rw [hy1]; omega) (by simp only [List.map_toArray, List.map_cons, List.map_nil]; exact i5_fill _ _ _ _ _ j0 hy1) ?_
       generalize hws : World.alloc _ _ = ws
       have hbs : Below w.heap.size w ws := by rw [← hws]; exact (Below.refl _ _).alloc (Nat.le_refl _) _
       have hks : Blk ws w.heap.size 3 #[.int .i64 511, .int .i64 512, .int .i64 513, .int .i64 1023, .int .i64 1024] := by rw [← hws]; exact heap_alloc_new _ _
       obtain ⟨m, hm1, hm2, hmc⟩ := i5_at hks hr5
       have HBS := Lib.hid hbs
       clear hws hbs hks))
  refine (place_any n 5 h1 h2 (by omega) (by omega) ws).mono ?_
  rintro e w' ⟨rfl, rfl⟩
  rw [HR.out]
  have hmk : ∀ W : World, (Instr.makeSlice 26 (.int .i64 (m : Int)) (.int .i64 (m : Int))).run Try.prog W = .ok (.slice (some ⟨W.heap.size, 0, none⟩) m m) (W.alloc (.cells (madeCells #[.slice none 0 0] m) 33)) := by
    intro W
    have h := run_make (P := Try.prog) W 26 33 i0 _ Try.underlying26 HI0.out HZ0.out .i64 .i64 (m : Int) (m : Int) (by omega) (by omega) (by rw [hz2]; omega) (by omega)
    rw [hz1, Nat.mul_one] at h
    exact h
  obtain ⟨X1, hX1⟩ : ∃ X, ws.alloc (.cells (madeCells #[.slice none 0 0] m) 33) = X := ⟨_, rfl⟩
  have hs1 : X1.heap.size = ws.heap.size + 1 := by rw [← hX1]; simp
  have qs := bl_sto X1 (blCells xL (.slice (some ⟨ws.heap.size, 0, none⟩) m m)) (blCells_len _ _) (blCells_one rfl)
  have HX1 := Lib.hid hX1
  have HS1 := Lib.hid hs1
  clear hs1
  go_upto_region 2 with (refine wpList_buildL rfl 28 [(0, _), (1, _)] rfl _ (built_blL _ _ _) ?_)
  clear qs hmk hmc hX1
  generalize hw1 : storeMid _ _ _ = w1
  obtain ⟨hb1, hh1⟩ := bl_end (blCells_len _ _) hw1
  have hu1 : Below ws.heap.size ws X1 ∧ Blk X1 ws.heap.size 33 (madeCells #[.slice none 0 0] m) := by rw [← HX1.out]; exact ⟨(Below.refl _ _).alloc (Nat.le_refl _) _, heap_alloc_new _ _⟩
  have ht1 := (txL_at hm2 hu1.2).below hb1
  obtain ⟨gb, hgb⟩ : ∃ gb, X1.heap.size = gb := ⟨_, rfl⟩
  obtain ⟨tv, htv⟩ : ∃ tv, Value.slice (some ⟨ws.heap.size, 0, none⟩) m m = tv := ⟨_, rfl⟩
  rw [hgb, htv] at hh1
  rw [htv] at ht1
  rw [hgb]
  have HB1 : Hid (Below w.heap.size w w1) := Lib.hid ((HBS.out.trans (hu1.1.mono HBS.out.size)).trans (hb1.mono (by have := HBS.out.size; have := HS1.out; omega)))
  have HK1 := Lib.hid hh1
  have HT1 := Lib.hid ht1
  have HSUM : Hid (txsSum (txL m) ≤ 999999000) := Lib.hid (by rw [txL_sum]; omega)
  obtain ⟨ec, hec⟩ : ∃ ec, encE xL (txL m) = ec := ⟨_, rfl⟩
  have hev : ec = if m ≤ 512 then 0 else 3 := by rw [← hec]; exact encE_L hm2
  have HEV := Lib.hid hev
  obtain ⟨F, hF⟩ : ∃ F, form xL (txL m) = F := ⟨_, rfl⟩
  have HFL : Hid (F.length ≤ 1073741824) := Lib.hid (by rw [← hF]; have := formL_le hm2; omega)
  obtain ⟨y, hy⟩ : ∃ y, (decB F).1 = y := ⟨_, rfl⟩
  obtain ⟨ts, hts⟩ : ∃ ts, (decB F).2 = ts := ⟨_, rfl⟩
  obtain ⟨de, hde⟩ : ∃ de, decE F = de := ⟨_, rfl⟩
  clear hw1 hb1 hh1 hu1 ht1 hgb hev HBS HX1 HS1
  have hrg := bl_rangeAll HK1.out
  have q1 := aggOk_mk hrg (blCells_len _ _)
  have q2 := loadN_eq hrg (blCells_len _ _)
  clear hrg
  go_wp2_with fail
  refine (benc_see w1 xL xL_fits tv (txL m) HT1.out (fun _ => HSUM.out)).mono ?_
  rintro e w2 ⟨hbn, p1, rfl, hv1⟩
  rw [hec]
  have HB2 := Lib.hid (HB1.out.trans (hbn.mono HB1.out.size))
  have HK2 := Lib.hid (HK1.out.below hbn HK1.out.lt)
  have HT2 := Lib.hid (HT1.out.below hbn)
  have HV1 := Lib.hid hv1
  clear hbn hv1 q1 q2 HB1 HK1 HT1
  have hrg := bl_rangeAll HK2.out
  have q1 := aggOk_mk hrg (blCells_len _ _)
  have q2 := loadN_eq hrg (blCells_len _ _)
  clear hrg
  go_wp2_with fail
  refine (renc_see w2 xL xL_fits tv (txL m) HT2.out (fun _ => HSUM.out)).mono ?_
  rintro e w3 ⟨hbn, p2, rfl, hv2⟩
  rw [hec]
  have HB3 := Lib.hid (HB2.out.trans (hbn.mono HB2.out.size))
  have HK3 := Lib.hid (HK2.out.below hbn HK2.out.lt)
  have HT3 := Lib.hid (HT2.out.below hbn)
  have HV2 := Lib.hid hv2
  have HV1b := Lib.hid (HV1.out.below hbn)
  clear hbn hv2 q1 q2 HB2 HK2 HT2 HV1
  have hrg := bl_rangeAll HK3.out
  have q1 := aggOk_mk hrg (blCells_len _ _)
  have q2 := loadN_eq hrg (blCells_len _ _)
  clear hrg
  go_wp2_with fail
  refine (form_any w3 xL xL_fits tv (txL m) HT3.out HSUM.out).mono ?_
  rintro e w4 ⟨vf3, rfl, hbn, hof⟩
  rw [hF] at hof
  have HOF := Lib.hid hof
  have HB3a := Lib.hid (HB3.out.trans (hbn.mono HB3.out.size))
  have HK3a := Lib.hid (HK3.out.below hbn HK3.out.lt)
  have HT3a := Lib.hid (HT3.out.below hbn)
  have HV1ba := Lib.hid (HV1b.out.below hbn)
  have HV2a := Lib.hid (HV2.out.below hbn)
  clear HV1b HV2
  clear hbn hof q1 q2 HB3 HK3 HT3
  go_wp2_with fail
  refine (bdec_see w4 _ F HOF.out.see HFL.out).mono ?_
  rintro e w5 ⟨hbn, tv3, rfl, htn⟩
  rw [hy, hde]
  rw [hts] at htn
  have qs := bl_sto w5 (blCells y tv3) (blCells_len _ _) (blCells_one htn.oneCell)
  have HB3b := Lib.hid (HB3a.out.trans (hbn.mono HB3a.out.size))
  have HK3b := Lib.hid (HK3a.out.below hbn HK3a.out.lt)
  have HT3b := Lib.hid (HT3a.out.below hbn)
  have HU3 := Lib.hid htn
  have HV1bb := Lib.hid (HV1ba.out.below hbn)
  have HV2b := Lib.hid (HV2a.out.below hbn)
  clear HV1ba HV2a
  clear hbn htn HOF HB3a HK3a HT3a
  go_upto_region 5 with (fail)
  generalize hwn : storeMid _ _ _ = w6
  obtain ⟨hbn, hhn⟩ := bl_end (blCells_len _ _) hwn
  obtain ⟨gc, hgn⟩ : ∃ gc, w5.heap.size = gc := ⟨_, rfl⟩
  rw [hgn] at hhn ⊢
  have HB4 := Lib.hid (HB3b.out.trans (hbn.mono HB3b.out.size))
  have HK4 := Lib.hid (HK3b.out.below hbn HK3b.out.lt)
  have HT4 := Lib.hid (HT3b.out.below hbn)
  have HU3' := Lib.hid (HU3.out.below hbn)
  have HG3 := Lib.hid hhn
  have HV1bc := Lib.hid (HV1bb.out.below hbn)
  have HV2c := Lib.hid (HV2b.out.below hbn)
  clear HV1bb HV2b
  clear hwn hbn hhn hgn qs HB3b HK3b HT3b HU3
  have hrg := bl_rangeAll HK4.out
  have q1 := aggOk_mk hrg (blCells_len _ _)
  have q2 := loadN_eq hrg (blCells_len _ _)
  clear hrg
  go_wp2_with fail
  refine (form_any w6 xL xL_fits tv (txL m) HT4.out HSUM.out).mono ?_
  rintro e w7 ⟨vf4, rfl, hbn, hof⟩
  rw [hF] at hof
  have HOF := Lib.hid hof
  have HB4a := Lib.hid (HB4.out.trans (hbn.mono HB4.out.size))
  have HK4a := Lib.hid (HK4.out.below hbn HK4.out.lt)
  have HT4a := Lib.hid (HT4.out.below hbn)
  have HV1bc_a := Lib.hid (HV1bc.out.below hbn)
  have HV2c_a := Lib.hid (HV2c.out.below hbn)
  have HU3p_a := Lib.hid (HU3'.out.below hbn)
  have HG3_a := Lib.hid (HG3.out.below hbn HG3.out.lt)
  clear HV1bc HV2c HU3' HG3
  clear hbn hof q1 q2 HB4 HK4 HT4
  go_wp2_with fail
  refine (rdec_see w7 _ F HOF.out.see HFL.out).mono ?_
  rintro e w8 ⟨hbn, tv4, rfl, htn⟩
  rw [hy, hde]
  rw [hts] at htn
  have qs := bl_sto w8 (blCells y tv4) (blCells_len _ _) (blCells_one htn.oneCell)
  have HB4b := Lib.hid (HB4a.out.trans (hbn.mono HB4a.out.size))
  have HK4b := Lib.hid (HK4a.out.below hbn HK4a.out.lt)
  have HT4b := Lib.hid (HT4a.out.below hbn)
  have HU4 := Lib.hid htn
  have HV1bc_b := Lib.hid (HV1bc_a.out.below hbn)
  have HV2c_b := Lib.hid (HV2c_a.out.below hbn)
  have HU3p_b := Lib.hid (HU3p_a.out.below hbn)
  have HG3_b := Lib.hid (HG3_a.out.below hbn HG3_a.out.lt)
  clear HV1bc_a HV2c_a HU3p_a HG3_a
  clear hbn htn HOF HB4a HK4a HT4a
  go_upto_region 6 with (fail)
  generalize hwn : storeMid _ _ _ = w9
  obtain ⟨hbn, hhn⟩ := bl_end (blCells_len _ _) hwn
  obtain ⟨gd, hgn⟩ : ∃ gd, w8.heap.size = gd := ⟨_, rfl⟩
  rw [hgn] at hhn ⊢
  have HB5 := Lib.hid (HB4b.out.trans (hbn.mono HB4b.out.size))
  have HK5 := Lib.hid (HK4b.out.below hbn HK4b.out.lt)
  have HT5 := Lib.hid (HT4b.out.below hbn)
  have HU4' := Lib.hid (HU4.out.below hbn)
  have HG4 := Lib.hid hhn
  have HV1bc_c := Lib.hid (HV1bc_b.out.below hbn)
  have HV2c_c := Lib.hid (HV2c_b.out.below hbn)
  have HU3p_c := Lib.hid (HU3p_b.out.below hbn)
  have HG3_c := Lib.hid (HG3_b.out.below hbn HG3_b.out.lt)
  clear HV1bc_b HV2c_b HU3p_b HG3_b
  clear hwn hbn hhn hgn qs HB4b HK4b HT4b HU4
  have HST : Hid (LmS gb gc gd tv tv3 tv4 y w9) := Lib.hid ⟨bl_rangeAll HK5.out, bl_rangeAll HG3_c.out, bl_rangeAll HG4.out⟩
  have hlen := HT5.out.len_
  rw [show (txL m).length = m by unfold txL; rw [List.length_replicate]] at hlen
  have hev := HEV.out
  by_cases hm : m ≤ 512
  · rw [if_pos hm] at hev
    subst hev
    have t1 : (m : Int) ≤ 512 := by omega
    clear hm
    have r1 := HST.out.2.1
    have r2 := HST.out.2.2
    have q1 := aggOk_mk r1 (blCells_len _ _)
    have q2 := loadN_eq r1 (blCells_len _ _)
    have q3 := aggOk_mk r2 (blCells_len _ _)
    have q4 := loadN_eq r2 (blCells_len _ _)
    clear r1 r2
    go_wp2_with fail
    refine (same_bytes HV1bc_c.out HV2c_c.out).mono ?_
    rintro e w10 ⟨rfl, rfl⟩
    rw [decide_eq_true rfl]
    go_wp2_with fail
    refine (same_block w9 y y tv3 tv4 ts rfl HU3p_c.out (HU4'.out)).mono ?_
    rintro e w11 ⟨rfl, hb11⟩
    have HD6 := Lib.hid hb11
    have ctv := (HST.out.below hb11).tv_
    clear hb11 q1 q2 q3 q4
    go_wp2_with fail
    refine (known_any w11).mono ?_
    rintro e w12 ⟨rfl, hb12⟩
    have HD7 := Lib.hid (HD6.out.trans (hb12.mono HD6.out.size))
    clear hb12 ctv
    go_wp2_with fail
    go_ret
    exact ⟨by first | rfl | (simp [t1]) | (simp [decide_eq_false t1]), HB5.out.trans (HD7.out.mono HB5.out.size)⟩
  · rw [if_neg hm] at hev
    subst hev
    have t1 : ¬ (m : Int) ≤ 512 := by omega
    clear hm
    have r1 := HST.out.2.1
    have r2 := HST.out.2.2
    have q1 := aggOk_mk r1 (blCells_len _ _)
    have q2 := loadN_eq r1 (blCells_len _ _)
    have q3 := aggOk_mk r2 (blCells_len _ _)
    have q4 := loadN_eq r2 (blCells_len _ _)
    clear r1 r2
    go_wp2_with fail
    refine (same_bytes HV1bc_c.out HV2c_c.out).mono ?_
    rintro e w10 ⟨rfl, rfl⟩
    rw [decide_eq_true rfl]
    go_wp2_with fail
    refine (same_block w9 y y tv3 tv4 ts rfl HU3p_c.out (HU4'.out)).mono ?_
    rintro e w11 ⟨rfl, hb11⟩
    have HD6 := Lib.hid hb11
    have ctv := (HST.out.below hb11).tv_
    clear hb11 q1 q2 q3 q4
    go_wp2_with fail
    refine (known_any w11).mono ?_
    rintro e w12 ⟨rfl, hb12⟩
    have HD7 := Lib.hid (HD6.out.trans (hb12.mono HD6.out.size))
    clear hb12 ctv
    go_wp2_with fail
    go_ret
    exact ⟨by first | rfl | (simp [t1]) | (simp [decide_eq_false t1]), HB5.out.trans (HD7.out.mono HB5.out.size)⟩
end Go.Proofs.Ytnhggaghidbniaa
