/- Decoding of a block: the program. -/
import Derived.Test.YtnhggaghidbniaaBlkV
namespace Go.Proofs.Ytnhggaghidbniaa
open Go.RowKit
set_option linter.unusedVariables false
set_option linter.unusedSimpArgs false
open Wir

set_option maxRecDepth 100000 in
set_option maxHeartbeats 8000000 in
attribute [local go_sem ↓] wp_load_hd wp_store_hd wp_load_bl wp_store_bl in
theorem bdecode_any (w : World) (v : Value) (b : List UInt8) (hs : SeeB w v b) (hb : b.length ≤ 1073741824) :
    Calls Try.prog 14 #[v] w (DecOut w b) := by
  obtain ⟨i0, hi0, hz0, hz1, hz2⟩ := info_parts sl_info
  have HI0 := Lib.hid hi0
  have HZ0 := Lib.hid hz0
  have hlen := hs.len_
  have HS := Lib.hid hs
  obtain ⟨bl, hbl⟩ : ∃ bl, b.length = bl := ⟨_, rfl⟩
  rw [hbl] at hlen
  have HBL := Lib.hid hbl
  clear hi0 hz0 hs hbl
  go_enter Try.func14, Try.ntmps14
  go_upto_region 1 with (fail)
  generalize hw1 : World.alloc _ _ = w1
  have hb1 : Below w.heap.size w w1 := by rw [← hw1]; exact (Below.refl _ _).alloc (Nat.le_refl _) _
  have hk1 : Blk w1 w.heap.size 28 blZ := by rw [← hw1, ← blZ_zero]; exact heap_alloc_new _ _
  obtain ⟨g, hg⟩ : ∃ g, w.heap.size = g := ⟨_, rfl⟩
  rw [hg] at hk1
  have HGG : Hid (w.heap.size ≤ g) := Lib.hid (by omega)
  rw [show (⟨w.heap.size, 0, none⟩ : Addr) = ⟨g, 0, none⟩ by rw [hg]]
  have HEQ : Hid (w.heap.size = g) := Lib.hid hg
  have HS1 := Lib.hid (HS.out.below hb1)
  have HB1 : Hid (Below w.heap.size w w1 ∧ Blk w1 g 28 blZ) := Lib.hid ⟨hb1, hk1⟩
  clear hw1 hb1 hk1 hg
  by_cases hbig : 2097152 < bl
  · have t1 : (2097152 : Int) < (bl : Int) := by omega
    have HE := Lib.hid (dec_big (b := b) (by rw [HBL.out]; exact hbig))
    clear hbig
    go_wp2_with (first
      | (refine wpList_buildL rfl 28 [] rfl blZ blZ_built ?_)
      | (refine wpList_store_rowTo rfl 28 (.tmp 2) (.tmp 17) rfl rfl g blZ rfl rfl _ _ HB1.out.2 blZ_szI rfl blZ_one ?_))
    generalize hwz : World.setRow _ _ _ = wz
    have hz : Below w.heap.size w wz ∧ Blk wz g 28 blZ := by
      rw [← hwz]
      exact row_step HB1.out.1 HGG.out HB1.out.2 _
    clear hwz
    refine bodyPost_ret (results_cell_tmp rfl _ _ g _ _ (0, 0) _ rfl hz.2 Try.underlying28 rfl blZ_szI) rfl ⟨hz.1, ?_⟩
    rw [HE.out]
    rfl
  have t1 : ¬ (2097152 : Int) < (bl : Int) := by omega
  have HNB : Hid (¬ 2097152 < b.length) := Lib.hid (by rw [HBL.out]; exact hbig)
  go_wp2_with fail
  refine (wfields_any w1 v b HS1.out hb).mono ?_
  rintro e w2 ⟨hb2, he2⟩
  have HB2 : Hid (Below w.heap.size w w2 ∧ Blk w2 g 28 blZ) := Lib.hid ⟨HB1.out.1.trans (hb2.mono HB1.out.1.size), HB1.out.2.below hb2 HB1.out.2.lt⟩
  clear hbig
  cases hp : parse b 0 with
  | none =>
    rw [hp] at he2
    obtain ⟨at_, c, hc, rfl⟩ := he2
    have t2 : (c == 0) = false := beq_eq_false_iff_ne.2 hc
    have t2b : (c != 0) = true := bne_iff_ne.2 hc
    have HE := Lib.hid (dec_none HNB.out hp)
    clear hp hb2 hc
    go_wp2_with (first
      | (refine wpList_buildL rfl 28 [] rfl blZ blZ_built ?_)
      | (refine wpList_store_rowTo rfl 28 (.tmp 2) (.tmp 45) rfl rfl g blZ rfl rfl _ _ HB2.out.2 blZ_szI rfl blZ_one ?_))
    generalize hwz : World.setRow _ _ _ = wz
    have hz : Below w.heap.size w wz ∧ Blk wz g 28 blZ := by
      rw [← hwz]
      exact row_step HB2.out.1 HGG.out HB2.out.2 _
    clear hwz
    refine bodyPost_ret (results_cell_tmp rfl _ _ g _ _ (0, 0) _ rfl hz.2 Try.underlying28 rfl blZ_szI) rfl ⟨hz.1, ?_⟩
    rw [HE.out]
    rfl
  | some l =>
    rw [hp] at he2
    obtain ⟨lv, items, rfl, hfs, hmap⟩ := he2
    have HP := Lib.hid hp
    have HFS : Hid (OwnFs w2 w.heap.size lv items) := Lib.hid (hfs.less HB1.out.1.size)
    obtain ⟨A0, c0, hlv⟩ := own_form (show w2.ownsRow w1.heap.size 50 4 lv _ _ from hfs.row)
    subst hlv
    cases items with
    | nil =>
      have hl : l = [] := hmap.symm
      have HE := Lib.hid (dec_nil HNB.out (hl ▸ HP.out))
      clear hp hb2 hfs hmap hl HFS
      go_wp2_with (first
        | (refine wpList_buildL rfl 28 [] rfl blZ blZ_built ?_)
        | (refine wpList_store_rowTo rfl 28 (.tmp 2) (.tmp 45) rfl rfl g blZ rfl rfl _ _ HB2.out.2 blZ_szI rfl blZ_one ?_))
      generalize hwz : World.setRow _ _ _ = wz
      have hz : Below w.heap.size w wz ∧ Blk wz g 28 blZ := by
        rw [← hwz]
        exact row_step HB2.out.1 HGG.out HB2.out.2 _
      clear hwz
      refine bodyPost_ret (results_cell_tmp rfl _ _ g _ _ (0, 0) _ rfl hz.2 Try.underlying28 rfl blZ_szI) rfl ⟨hz.1, ?_⟩
      rw [HE.out]
      rfl
    | cons it tl =>
      have hl : l = it.f :: tl.map FItem.f := hmap.symm
      have hp' : parse b 0 = some (it.f :: tl.map FItem.f) := by rw [hp, hl]
      have HQ := Lib.hid hp'
      obtain ⟨m, hm⟩ : ∃ m, tl.length = m := ⟨_, rfl⟩
      have hlen2 : (it :: tl).length = m + 1 := by rw [List.length_cons, hm]
      obtain ⟨gl, cl, hlv, f, Af, cf, hfi, hsf, d0, d1, d2, d3⟩ := HFS.out.at_ (k := 0) (by rw [hlen2]; omega)
      rw [hlen2] at hlv
      rw [hlen2] at HFS ⊢
      have hA0 : A0 = some ⟨gl, 0, none⟩ := by injection hlv
      subst hA0
      have hc0 : m + 1 ≤ c0 := by
        have hr : w2.ownsRow w.heap.size 50 4 (.slice (some ⟨gl, 0, none⟩) (m + 1) c0) _ _ := HFS.out.row
        rcases hr.2 with ⟨hv, h0⟩ | ⟨gg, cc, cur, hv, hb', hg', hnc, hcm, hsz, htk⟩
        · injection hv with hv; cases hv
        · injection hv with _ _ e; rw [hlen2] at hnc; omega
      obtain ⟨A1, c1, hsl, hA1⟩ := flds_tail (gl := gl) hc0
      have hif : it = ⟨f, .slice Af f.bytes.length cf⟩ := by simpa using hfi
      have HIF := Lib.hid hif
      have HSF := Lib.hid hsf
      obtain ⟨fl, hfl⟩ : ∃ fl, f.bytes.length = fl := ⟨_, rfl⟩
      rw [hfl] at d3 HSF
      have HFL := Lib.hid hfl
      have HM := Lib.hid hm
      have HL2 := Lib.hid hlen2
      have HA1 := Lib.hid hA1
      have HSL := Lib.hid hsl
      have HQF : Hid (parse b 0 = some (f :: tl.map FItem.f)) := Lib.hid (by rw [HQ.out, hif])
      have hfb : f.bytes.length ≤ 1073741824 := Nat.le_trans ((parse_inv _ b 0 _ rfl (by omega) (by omega) HQF.out).2.1 f (List.mem_cons_self ..)).2 hb
      have HFB := Lib.hid hfb
      have hmb : m ≤ 1024 := by
        have h9 := (parse_inv _ b 0 _ rfl (by omega) (by omega) HQF.out).2.2
        rw [List.length_cons, List.length_map, hm] at h9
        omega
      simp only [Nat.zero_mul, Nat.zero_add] at d0 d1 d2 d3
      have t3 : (((m + 1 : Nat) : Int) == 0) = false := beq_eq_false_iff_ne.2 (by omega)
      have t3b : ¬ ((m + 1 : Nat) : Int) = 0 := by omega
      have t4 : (0 : Int) < ((m + 1 : Nat) : Int) := by omega
      clear hp hb2 hfs hmap hl hp' hm hlv hc0 hsl hA1 hif hfi hsf hfl hfb hlen2
      by_cases hn : f.num = 1
      · by_cases hk : f.kind = 2
        · have HFK : Hid (f.num = 1 ∧ f.kind = 2) := Lib.hid ⟨hn, hk⟩
          have t5 : (f.num == 1) = true := beq_iff_eq.2 hn
          have t5b : (f.num != 1) = false := by simp [hn]
          have t6 : (f.kind == 2) = true := beq_iff_eq.2 hk
          have t6b : (f.kind != 2) = false := by simp [hk]
          clear hn hk
          go_wp2_with fail
          refine (bread_any w2 _ f.bytes HSF.out HFB.out).mono ?_
          rintro e w3 ⟨hb3, he3⟩
          have HB3 : Hid (Below w.heap.size w w3 ∧ Blk w3 g 28 blZ) := Lib.hid ⟨HB2.out.1.trans (hb3.mono HB2.out.1.size), HB2.out.2.below hb3 HB2.out.2.lt⟩
          have HFS3 := Lib.hid (HFS.out.below hb3)
          clear d0 d1 d2 d3 hb3 t5 t5b t6 t6b
          cases hx : readH f.bytes with
          | none =>
            rw [hx] at he3
            obtain ⟨y, rfl⟩ := he3
            have HE := Lib.hid (dec_hd HNB.out HQF.out hx)
            have qs := hd_sto w3 (hdCells y) (hdCells_len y) (hdCells_one y)
            clear hx
            go_upto_region 7 with (fail)
            generalize hw4 : storeMid _ _ _ = w4
            obtain ⟨hb4, hh4⟩ := hd_end (hdCells_len y) hw4
            have HB4 : Hid (Below w.heap.size w w4 ∧ Blk w4 g 28 blZ) := Lib.hid ⟨HB3.out.1.trans (hb4.mono HB3.out.1.size), HB3.out.2.below hb4 HB3.out.2.lt⟩
            clear hw4 hb4 hh4 qs
            go_wp2_with (first
              | (refine wpList_buildL rfl 28 [] rfl blZ blZ_built ?_)
              | (refine wpList_store_rowTo rfl 28 (.tmp 2) (.tmp 56) rfl rfl g blZ rfl rfl _ _ HB4.out.2 blZ_szI rfl blZ_one ?_))
            generalize hwz : World.setRow _ _ _ = wz
            have hz : Below w.heap.size w wz ∧ Blk wz g 28 blZ := by
              rw [← hwz]
              exact row_step HB4.out.1 HGG.out HB4.out.2 _
            clear hwz
            refine bodyPost_ret (results_cell_tmp rfl _ _ g _ _ (0, 0) _ rfl hz.2 Try.underlying28 rfl blZ_szI) rfl ⟨hz.1, ?_⟩
            rw [HE.out]
            rfl
          | some x =>
            rw [hx] at he3
            obtain rfl := he3
            have HX := Lib.hid hx
            have qs := hd_sto w3 (hdCells x) (hdCells_len x) (hdCells_one x)
            clear hx
            go_upto_region 7 with (fail)
            generalize hw4 : storeMid _ _ _ = w4
            obtain ⟨hb4, hh4⟩ := hd_end (hdCells_len x) hw4
            have hrg := hd_range hh4
            have q1 := aggOk_mk hrg (hdCells_len x)
            have q2 := loadN_eq hrg (hdCells_len x)
            have qs := bl_sto w4 (blCells x (.slice none 0 0)) (blCells_len _ _) (blCells_one rfl)
            have HB4 : Hid (Below w.heap.size w w4 ∧ Blk w4 g 28 blZ) := Lib.hid ⟨HB3.out.1.trans (hb4.mono HB3.out.1.size), HB3.out.2.below hb4 HB3.out.2.lt⟩
            have HFS4 := Lib.hid (HFS3.out.below hb4)
            clear hw4 hb4 hh4 hrg HFS3
            go_upto_region 10 with (refine wpList_buildL rfl 28 [(0, _)] rfl (blCells x (.slice none 0 0)).toArray (built_bl x) ?_)
            generalize hw5 : storeMid _ _ _ = w5
            obtain ⟨hb5, hh5⟩ := bl_end (blCells_len _ _) hw5
            obtain ⟨gb, hgb⟩ : ∃ gb, w4.heap.size = gb := ⟨_, rfl⟩
            rw [hgb] at hh5
            have HNE : Hid (g ≠ gb) := Lib.hid (by have := HB4.out.2.lt; omega)
            have HGE : Hid (w.heap.size ≤ gb) := Lib.hid (by rw [← hgb]; exact HB4.out.1.size)
            rw [show (⟨w4.heap.size, 0, none⟩ : Addr) = ⟨gb, 0, none⟩ by rw [hgb]]
            have HST : Hid (DecSt w g gb x (.slice (some ⟨gl, 0, none⟩) (m + 1) c0) (it :: tl) (.slice none 0 0) [] w5) := Lib.hid ⟨HB4.out.1.trans (hb5.mono HB4.out.1.size), HB4.out.2.below hb5 HB4.out.2.lt, hh5, HFS4.out.below hb5, OwnT.nil _ _⟩
            have hsl := HSL.out
            clear hw5 hb5 hh5 hgb q1 q2 qs t3 t3b HB1 HB2 HB3 HB4 HFS HFS4 HS1 t1
            go_upto_region 11 with (fail)
            clear hsl t4
            go_loopw [62] (fun i wr => ∃ j : Nat, i = .int .i64 (j : Int) ∧ j ≤ m ∧ ∃ tv, DecSt w g gb x (.slice (some ⟨gl, 0, none⟩) (m + 1) c0) (it :: tl) tv ((tl.take j).map FItem.v) wr ∧ ((tl.take j).map FItem.f).all (fun g => decide (g.num = 2) && decide (g.kind = 2)) = true) (fun i _ => m - (intOf i).toNat)
            case atStart => exact ⟨0, rfl, Nat.zero_le _, _, HST.out, rfl⟩
            case round =>
              obtain ⟨j, rfl, hj, tv, hst, hall⟩ := hrel
              have HSR := Lib.hid hst
              have HALL := Lib.hid hall
              clear hst hall HST
              rcases Nat.lt_or_ge j m with hlt | hge
              · have t1 : (j : Int) < (m : Int) := by omega
                have t0 : (0 : Int) ≤ (j : Int) := by omega
                obtain rfl := HA1.out (by omega)
                obtain ⟨gl', cl', hlv', f', Af', cf', hfi, hsf', d0, d1, d2, d3⟩ := HSR.out.fs.at_ (k := 1 + j) (by rw [HL2.out]; omega)
                have hgl : gl = gl' := by injection hlv' with h; injection h with h; injection h
                subst hgl
                have hfj : tl[j]? = some ⟨f', .slice Af' f'.bytes.length cf'⟩ := by rw [Nat.add_comm, List.getElem?_cons_succ] at hfi; exact hfi
                obtain ⟨hjl, hje⟩ := List.getElem?_eq_some_iff.1 hfj
                have htk : tl.take (j + 1) = tl.take j ++ [⟨f', .slice Af' f'.bytes.length cf'⟩] := by rw [List.take_succ_eq_append_getElem hjl, hje]
                have HTK := Lib.hid htk
                have HFJ := Lib.hid hfj
                have hvl : ((tl.take j).map FItem.v).length ≤ 1073741824 := by
                  have := (parse_inv _ b 0 _ rfl (by omega) (by omega) HQF.out).2.2
                  rw [List.length_cons, List.length_map, HM.out] at this
                  rw [List.length_map, List.length_take]
                  omega
                have HVL := Lib.hid hvl
                obtain ⟨fl', hfl'⟩ : ∃ fl', f'.bytes.length = fl' := ⟨_, rfl⟩
                rw [hfl'] at d3 htk
                have HTK := Lib.hid htk
                have HFL' := Lib.hid hfl'
                rw [show (1 + j) * 4 = 4 + j * 4 by omega] at d0 d1 d2 d3
                clear hlv' hfi hsf' hfj hjl hje htk hvl hj hfl'
                go_upto_region 13 with (refine wpList_store_rowTo rfl 50 (.tmp 11) (.tmp 65) rfl rfl wr.heap.size #[.int .i64 f'.num, .int .i64 f'.kind, .int .u64 (f'.val : Int), .slice Af' fl' cf'] rfl rfl _ _ (fld_new wr) (by kernel_rfl) rfl (by kernel_rfl) ?_)
                generalize hw6 : World.setRow _ _ _ = w6
                have h6 : Below wr.heap.size wr w6 ∧ Blk w6 wr.heap.size 50 #[.int .i64 f'.num, .int .i64 f'.kind, .int .u64 (f'.val : Int), .slice Af' fl' cf'] := by
                  rw [← hw6]
                  exact row_step ((Below.refl _ _).alloc (Nat.le_refl _) _) (Nat.le_refl _) (fld_new wr) _
                have HS6 := Lib.hid (HSR.out.below h6.1)
                have d0 := h6.2.cell 0
                have d1 := h6.2.cell 1
                have d3 := h6.2.cell 3
                simp only [List.getElem?_toArray, List.getElem?_cons_zero, List.getElem?_cons_succ] at d0 d1 d3
                clear hw6 h6 d2 HSR
                by_cases hn : f'.num = 2
                · by_cases hk : f'.kind = 2
                  · have HOKF : Hid (f'.num = 2 ∧ f'.kind = 2) := Lib.hid ⟨hn, hk⟩
                    have t5 : (f'.num == 2) = true := beq_iff_eq.2 hn
                    have t5b : (f'.num != 2) = false := by simp [hn]
                    have t6 : (f'.kind == 2) = true := beq_iff_eq.2 hk
                    have t6b : (f'.kind != 2) = false := by simp [hk]
                    clear hn hk
                    have ctv : w6.cell? ⟨gb, 131, none⟩ = some tv := bl_tv HS6.out.bx
                    have hz6 := HS6.out.bel.size
                    go_wp2_with (first
                      | (refine wpList_buildSlice rfl 26 33 1 _ rfl #[.slice Af' fl' cf'] i0 _ Try.underlying26 HI0.out HZ0.out (by rw [hz1]; omega) (by rw [hz1]; omega) (by simp only [List.map_toArray, List.map_cons, List.map_nil]; exact sl_fill _ _ _ i0 hz1) ?_)
                      | (at_builtin
                         refine wpList_app_sl rfl (.tmp 76) (.tmp 79) rfl w.heap.size tv _ rfl HS6.out.row (.slice Af' fl' cf') rfl rfl HVL.out hz6 ?_
                         intro v7 w7 ho7 hg7
                         obtain ⟨A7, n7, c7, hv7⟩ : ∃ A7 n7 c7, v7 = .slice A7 n7 c7 := by
                           obtain ⟨A, c, e⟩ := own_form (show w7.ownsRow w.heap.size 33 1 v7 _ _ from ho7)
                           exact ⟨A, _, c, e⟩
                         subst hv7
                         obtain ⟨hbx7, hst7⟩ := HS6.out.app HNE.out HGE.out ho7 hg7
                         obtain ⟨vo, ctv⟩ : ∃ vo, w7.cell? ⟨gb, 131, none⟩ = some vo := ⟨_, bl_tv hbx7⟩
                         have hfo := hbx7.frozen 131
                         have HS7 := Lib.hid hst7
                         clear ho7 hg7 hst7 hbx7))
                    go_roundw
                    case rel =>
                      refine ⟨j + 1, by go_num, by omega, .slice A7 n7 c7, ?_, ?_⟩
                      · rw [HTK.out, List.map_append]
                        exact HS7.out
                      · rw [HTK.out, List.map_append, List.all_append, HALL.out]
                        simp [HOKF.out.1, HOKF.out.2]
                    case measure => simp [intOf]; omega
                  · have t5 : (f'.num == 2) = true := beq_iff_eq.2 hn
                    have t5b : (f'.num != 2) = false := by simp [hn]
                    have t6 : (f'.kind == 2) = false := beq_eq_false_iff_ne.2 hk
                    have t6b : (f'.kind != 2) = true := bne_iff_ne.2 hk
                    have HE := Lib.hid (dec_tail HNB.out HQF.out HX.out (all_no HFJ.out (by simp [hk])))
                    have HZ : Hid (Below w.heap.size w w6 ∧ Blk w6 g 28 blZ) := Lib.hid ⟨HS6.out.bel, HS6.out.box⟩
                    clear hn hk
                    go_wp2_with (first
                      | (refine wpList_buildL rfl 28 [] rfl blZ blZ_built ?_)
                      | (refine wpList_store_rowTo rfl 28 (.tmp 2) (.tmp 74) rfl rfl g blZ rfl rfl _ _ HZ.out.2 blZ_szI rfl blZ_one ?_))
                    generalize hwz : World.setRow _ _ _ = wz
                    have hz : Below w.heap.size w wz ∧ Blk wz g 28 blZ := by
                      rw [← hwz]
                      exact row_step HZ.out.1 HGG.out HZ.out.2 _
                    clear hwz
                    refine bodyPost_ret (results_cell_tmp rfl _ _ g _ _ (0, 0) _ rfl hz.2 Try.underlying28 rfl blZ_szI) rfl ⟨hz.1, ?_⟩
                    rw [HE.out]
                    rfl
                · have t5 : (f'.num == 2) = false := beq_eq_false_iff_ne.2 hn
                  have t5b : (f'.num != 2) = true := bne_iff_ne.2 hn
                  have HE := Lib.hid (dec_tail HNB.out HQF.out HX.out (all_no HFJ.out (by simp [hn])))
                  have HZ : Hid (Below w.heap.size w w6 ∧ Blk w6 g 28 blZ) := Lib.hid ⟨HS6.out.bel, HS6.out.box⟩
                  clear hn
                  go_wp2_with (first
                    | (refine wpList_buildL rfl 28 [] rfl blZ blZ_built ?_)
                    | (refine wpList_store_rowTo rfl 28 (.tmp 2) (.tmp 74) rfl rfl g blZ rfl rfl _ _ HZ.out.2 blZ_szI rfl blZ_one ?_))
                  generalize hwz : World.setRow _ _ _ = wz
                  have hz : Below w.heap.size w wz ∧ Blk wz g 28 blZ := by
                    rw [← hwz]
                    exact row_step HZ.out.1 HGG.out HZ.out.2 _
                  clear hwz
                  refine bodyPost_ret (results_cell_tmp rfl _ _ g _ _ (0, 0) _ rfl hz.2 Try.underlying28 rfl blZ_szI) rfl ⟨hz.1, ?_⟩
                  rw [HE.out]
                  rfl
              · obtain rfl : j = m := by omega
                have t1 : ¬ (j : Int) < (j : Int) := by omega
                have hat : tl.take j = tl := List.take_of_length_le (by rw [HM.out]; exact Nat.le_refl _)
                rw [hat] at HSR HALL
                have HTX := Lib.hid HSR.out.txs
                have HBP : Hid (b.length ≤ 2097152) := Lib.hid (by have := HNB.out; omega)
                have hsum := parse_sum HBP.out HQF.out
                have HSUM := Lib.hid hsum
                have HFIT := Lib.hid (readH_fits HX.out)
                have hrg := bl_rangeAll HSR.out.bx
                have q1 := aggOk_mk hrg (blCells_len _ _)
                have q2 := loadN_eq hrg (blCells_len _ _)
                obtain ⟨txs, htxs⟩ : ∃ txs, (tl.map FItem.f).map Fld.bytes = txs := ⟨_, rfl⟩
                rw [htxs] at HTX HSUM
                have HTE := Lib.hid htxs
                clear hat hsum hrg htxs
                go_wp2_with fail
                refine (benc_any wr x HFIT.out tv txs HTX.out (fun _ => HSUM.out)).mono ?_
                rintro e w8 ⟨hb8, he8⟩
                have HS8 := Lib.hid (HSR.out.below hb8)
                have HTX8 := Lib.hid (HTX.out.below hb8)
                clear hb8 q1 q2
                rcases he8 with ⟨he0, v8, rfl, hv8⟩ | ⟨he0, rfl⟩
                · have HE : Hid (Wir.decode b = .ok (x, txs)) := Lib.hid (by have h := dec_ok HNB.out HQF.out HFK.out HX.out HALL.out (by rw [HTE.out]; exact he0); rw [HTE.out] at h; exact h)
                  have hrg := bl_rangeAll HS8.out.bx
                  have q1 := aggOk_mk hrg (blCells_len _ _)
                  have q2 := loadN_eq hrg (blCells_len _ _)
                  clear hv8 he0 hrg
                  go_wp2_with (refine wpList_store_rowTo rfl 28 (.tmp 2) (.tmp 92) rfl rfl g (blCells x tv).toArray rfl rfl _ _ HS8.out.box (bl_szI _ _) (bl_szZ _ _) (all_one _ (blCells_one HTX8.out.oneCell)) ?_)
                  generalize hwz : World.setRow _ _ _ = wz
                  have hz : Below w.heap.size w wz ∧ Blk wz g 28 (blCells x tv).toArray := by
                    rw [← hwz]
                    exact row_step HS8.out.bel HGG.out HS8.out.box _
                  have hty : TxsAt wz tv txs := by
                    rw [← hwz, ← HTE.out]
                    exact HS8.out.done _
                  clear hwz
                  refine bodyPost_ret (results_cell_tmp rfl _ _ g _ _ (0, 0) _ rfl hz.2 Try.underlying28 rfl (bl_szI _ _)) rfl ⟨hz.1, ?_⟩
                  rw [HE.out]
                  exact ⟨tv, rfl, hty⟩
                · obtain ⟨ec, hec⟩ : ∃ ec, encE x txs = ec := ⟨_, rfl⟩
                  have HE : Hid (Wir.decode b = .error ec) := Lib.hid (dec_enc HNB.out HQF.out HFK.out HX.out HALL.out (by rw [HTE.out]; exact hec) (by rw [← hec]; exact he0))
                  rw [hec] at he0 ⊢
                  have t2 : (ec == 0) = false := beq_eq_false_iff_ne.2 he0
                  have t2b : (ec != 0) = true := bne_iff_ne.2 he0
                  have HZ : Hid (Below w.heap.size w w8 ∧ Blk w8 g 28 blZ) := Lib.hid ⟨HS8.out.bel, HS8.out.box⟩
                  clear hec he0
                  go_wp2_with (first
                    | (refine wpList_buildL rfl 28 [] rfl blZ blZ_built ?_)
                    | (refine wpList_store_rowTo rfl 28 (.tmp 2) (.tmp 90) rfl rfl g blZ rfl rfl _ _ HZ.out.2 blZ_szI rfl blZ_one ?_))
                  generalize hwz : World.setRow _ _ _ = wz
                  have hz : Below w.heap.size w wz ∧ Blk wz g 28 blZ := by
                    rw [← hwz]
                    exact row_step HZ.out.1 HGG.out HZ.out.2 _
                  clear hwz
                  refine bodyPost_ret (results_cell_tmp rfl _ _ g _ _ (0, 0) _ rfl hz.2 Try.underlying28 rfl blZ_szI) rfl ⟨hz.1, ?_⟩
                  rw [HE.out]
                  rfl
        · have t5 : (f.num == 1) = true := beq_iff_eq.2 hn
          have t5b : (f.num != 1) = false := by simp [hn]
          have t6 : (f.kind == 2) = false := beq_eq_false_iff_ne.2 hk
          have t6b : (f.kind != 2) = true := bne_iff_ne.2 hk
          have HE := Lib.hid (dec_first HNB.out HQF.out (.inr hk))
          clear hn hk
          go_wp2_with (first
            | (refine wpList_buildL rfl 28 [] rfl blZ blZ_built ?_)
            | (refine wpList_store_rowTo rfl 28 (.tmp 2) (.tmp 45) rfl rfl g blZ rfl rfl _ _ HB2.out.2 blZ_szI rfl blZ_one ?_))
          generalize hwz : World.setRow _ _ _ = wz
          have hz : Below w.heap.size w wz ∧ Blk wz g 28 blZ := by
            rw [← hwz]
            exact row_step HB2.out.1 HGG.out HB2.out.2 _
          clear hwz
          refine bodyPost_ret (results_cell_tmp rfl _ _ g _ _ (0, 0) _ rfl hz.2 Try.underlying28 rfl blZ_szI) rfl ⟨hz.1, ?_⟩
          rw [HE.out]
          rfl
      · have t5 : (f.num == 1) = false := beq_eq_false_iff_ne.2 hn
        have t5b : (f.num != 1) = true := bne_iff_ne.2 hn
        have HE := Lib.hid (dec_first HNB.out HQF.out (.inl hn))
        clear hn
        go_wp2_with (first
          | (refine wpList_buildL rfl 28 [] rfl blZ blZ_built ?_)
          | (refine wpList_store_rowTo rfl 28 (.tmp 2) (.tmp 45) rfl rfl g blZ rfl rfl _ _ HB2.out.2 blZ_szI rfl blZ_one ?_))
        generalize hwz : World.setRow _ _ _ = wz
        have hz : Below w.heap.size w wz ∧ Blk wz g 28 blZ := by
          rw [← hwz]
          exact row_step HB2.out.1 HGG.out HB2.out.2 _
        clear hwz
        refine bodyPost_ret (results_cell_tmp rfl _ _ g _ _ (0, 0) _ rfl hz.2 Try.underlying28 rfl blZ_szI) rfl ⟨hz.1, ?_⟩
        rw [HE.out]
        rfl
end Go.Proofs.Ytnhggaghidbniaa
