/- Encode of the program and of the reference. -/
import Derived.Test.YtnhggaghidbniaaBlkP
namespace Go.Proofs.Ytnhggaghidbniaa
open Go.RowKit
set_option linter.unusedVariables false
set_option linter.unusedSimpArgs false
open Wir

/-- what Encode leaves -/
def EncOut (w : World) (x : Hd) (txs : List (List UInt8)) (e : Ending) (w' : World) : Prop :=
  Below w.heap.size w w' ∧ ((encE x txs = 0 ∧ ∃ v, e = .returned (.tuple #[v, .int .i64 0]) ∧ OwnB w' w.heap.size v (form x txs)) ∨ (encE x txs ≠ 0 ∧ e = .returned (.tuple #[.slice none 0 0, .int .i64 (encE x txs)])))
theorem encE_nums {x : Hd} {txs : List (List UInt8)} (h : numsOk x = false) : encE x txs = 1 := by unfold encE; rw [if_pos h]
theorem encE_many {x : Hd} {txs : List (List UInt8)} (h : numsOk x = true) (h2 : 512 < txs.length) : encE x txs = 3 := by unfold encE; rw [if_neg (by simp [h]), if_pos h2]
theorem encE_long {x : Hd} {txs : List (List UInt8)} (h : numsOk x = true) (h2 : ¬ 512 < txs.length) (h3 : 2097152 < (form x txs).length) : encE x txs = 3 := by unfold encE; rw [if_neg (by simp [h]), if_neg h2, if_pos h3]
theorem encE_ok {x : Hd} {txs : List (List UInt8)} (h : numsOk x = true) (h2 : ¬ 512 < txs.length) (h3 : ¬ 2097152 < (form x txs).length) : encE x txs = 0 := by unfold encE; rw [if_neg (by simp [h]), if_neg h2, if_neg h3]
theorem form_take (x : Hd) (txs : List (List UInt8)) (j : Nat) : (msg ((blkFields x txs).take j)).length ≤ (form x txs).length := msg_take_le j
theorem enc_byt_ge (b : List UInt8) : b.length ≤ (enc (bytF 2 b)).length := by
  unfold enc bytF
  simp only [if_neg (show ¬ (2 : Int) = 0 by omega), List.length_append]
  omega

set_option maxRecDepth 100000 in
set_option maxHeartbeats 4000000 in
attribute [local go_sem ↓] wp_load_hd wp_store_hd wp_load_bl in
theorem benc_any (w : World) (x : Hd) (hx : x.fits) (tv : Value) (txs : List (List UInt8)) (ht : TxsAt w tv txs) (hsum : txs.length ≤ 512 → txsSum txs ≤ 999999000) :
    Calls Try.prog 11 #[blV x tv] w (EncOut w x txs) := by
  obtain ⟨cx, hcx⟩ : ∃ cx, (blCells x tv).toArray = cx := ⟨_, rfl⟩
  show Calls _ _ #[.agg (blCells x tv).toArray] _ _
  rw [hcx]
  have HCX := Lib.hid hcx
  have HX := Lib.hid hx
  have HSUM := Lib.hid hsum
  have HT := Lib.hid ht
  clear hcx ht hsum hx
  go_enter Try.func11, Try.ntmps11
  go_upto_region 1 with (fail)
  generalize hw1 : World.alloc _ _ = w1
  have hb1 : Below w.heap.size w w1 := by rw [← hw1]; exact (Below.refl _ _).alloc (Nat.le_refl _) _
  have hk1 : Blk w1 w.heap.size 28 (blCells x tv).toArray := by rw [← hw1, HCX.out]; exact heap_alloc_new _ _
  obtain ⟨g, hg⟩ : ∃ g, w.heap.size = g := ⟨_, rfl⟩
  rw [hg] at hk1
  have HGG := Lib.hid hg
  rw [show (⟨w.heap.size, 0, none⟩ : Addr) = ⟨g, 0, none⟩ by rw [hg]]
  have hat := bl_range hk1
  have q1 := aggOk_mk hat (hdCells_len x)
  have q2 := loadN_eq hat (hdCells_len x)
  have qs := hd_sto w1 (hdCells x) (hdCells_len x) (hdCells_one x)
  have HB1 := Lib.hid hb1
  have HK1 := Lib.hid hk1
  clear hw1 hb1 hk1 hat hg
  go_upto_region 2 with (fail)
  generalize hw2 : storeMid _ _ _ = w2
  obtain ⟨hb2, hh2⟩ := hd_end (hdCells_len x) hw2
  obtain ⟨gh, hgh⟩ : ∃ gh, w1.heap.size = gh := ⟨_, rfl⟩
  rw [hgh] at hh2 ⊢
  have hk2 := HK1.out.below hb2 HK1.out.lt
  have HK2 := Lib.hid hk2
  have HH2 := Lib.hid hh2
  have HB2 := Lib.hid (HB1.out.trans (hb2.mono HB1.out.size))
  obtain ⟨n0, n1, n2⟩ := (hd_range hh2).num
  obtain ⟨A, c, htv, hc1, hc2, g2, o2, hA, hrows⟩ := HT.out
  have ctv : w2.cell? ⟨g, 131, none⟩ = some tv := bl_tv hk2
  obtain ⟨T, hT⟩ : ∃ T, txs.length = T := ⟨_, rfl⟩
  rw [htv, hT] at ctv
  rw [hT] at hA hc1
  have HA := Lib.hid hA
  have HROWS := Lib.hid hrows
  have HTT := Lib.hid hT
  have HTV := Lib.hid htv
  clear q1 q2 qs hb2 hh2 hk2 hA hrows htv hT HK1 HB1 hw2 hgh
  by_cases b0 : x.h < 1
  · have hno : numsOk x = false := by unfold numsOk; simp; omega
    have HE := Lib.hid (encE_nums (txs := txs) hno)
    clear hno
    go_wp2_with fail
    go_ret2
    exact ⟨HB2.out, .inr ⟨by rw [HE.out]; decide, by rw [HE.out]; rfl⟩⟩
  by_cases b1 : 1073741824 < x.h
  · have hno : numsOk x = false := by unfold numsOk; simp; omega
    have HE := Lib.hid (encE_nums (txs := txs) hno)
    clear hno
    go_wp2_with fail
    go_ret2
    exact ⟨HB2.out, .inr ⟨by rw [HE.out]; decide, by rw [HE.out]; rfl⟩⟩
  by_cases b2 : x.t < 1
  · have hno : numsOk x = false := by unfold numsOk; simp; omega
    have HE := Lib.hid (encE_nums (txs := txs) hno)
    clear hno
    go_wp2_with fail
    go_ret2
    exact ⟨HB2.out, .inr ⟨by rw [HE.out]; decide, by rw [HE.out]; rfl⟩⟩
  by_cases b3 : 1099511627776 < x.t
  · have hno : numsOk x = false := by unfold numsOk; simp; omega
    have HE := Lib.hid (encE_nums (txs := txs) hno)
    clear hno
    go_wp2_with fail
    go_ret2
    exact ⟨HB2.out, .inr ⟨by rw [HE.out]; decide, by rw [HE.out]; rfl⟩⟩
  by_cases b4 : x.p < 0
  · have hno : numsOk x = false := by unfold numsOk; simp; omega
    have HE := Lib.hid (encE_nums (txs := txs) hno)
    clear hno
    go_wp2_with fail
    go_ret2
    exact ⟨HB2.out, .inr ⟨by rw [HE.out]; decide, by rw [HE.out]; rfl⟩⟩
  by_cases b5 : 8 ≤ x.p
  · have hno : numsOk x = false := by unfold numsOk; simp; omega
    have HE := Lib.hid (encE_nums (txs := txs) hno)
    clear hno
    go_wp2_with fail
    go_ret2
    exact ⟨HB2.out, .inr ⟨by rw [HE.out]; decide, by rw [HE.out]; rfl⟩⟩
  have hnums : numsOk x = true := by unfold numsOk; simp; omega
  have HN := Lib.hid hnums
  clear hnums
  by_cases hmany : 512 < T
  · have t5 : (512 : Int) < (T : Int) := by omega
    have HE := Lib.hid (encE_many HN.out (by rw [HTT.out]; exact hmany))
    go_wp2_with fail
    go_ret2
    exact ⟨HB2.out, .inr ⟨by rw [HE.out]; decide, by rw [HE.out]; rfl⟩⟩
  have t5 : ¬ (512 : Int) < (T : Int) := by omega
  have HM : Hid (¬ 512 < txs.length) := Lib.hid (by rw [HTT.out]; exact hmany)
  have hs9 : txsSum txs ≤ 999999000 := HSUM.out (by have := HM.out; omega)
  have HS9 := Lib.hid hs9
  clear hs9 hmany
  have hrg := hd_range HH2.out
  have q1 := aggOk_mk hrg (hdCells_len x)
  have q2 := loadN_eq hrg (hdCells_len x)
  clear hrg
  go_wp2_with fail
  refine (bheader_any w2 x HX.out).mono ?_
  rintro e w3 ⟨v3, rfl, hb3, ho3⟩
  obtain ⟨A3, c3, he3⟩ := own_form (show w3.ownsRow w2.heap.size 5 1 v3 _ _ from ho3)
  subst he3
  have HB3 := Lib.hid (HB2.out.trans (hb3.mono HB2.out.size))
  have HS3 := Lib.hid ho3.see
  have HK3 := Lib.hid (HK2.out.below hb3 HK2.out.lt)
  have hhl := headerB_le HX.out
  have hbo := bytF_okay (i := 1) (b := headerB x) (by omega) (by omega)
  obtain ⟨hl, hhe⟩ : ∃ hl, (headerB x).length = hl := ⟨_, rfl⟩
  rw [hhe] at HS3 ⊢
  have ctv : w3.cell? ⟨g, 131, none⟩ = some (.slice A T c) := (hb3.cell (p := ⟨g, 131, none⟩) HK2.out.lt).trans ctv
  clear hb3 ho3 q1 q2 n0 n1 n2 HK2 HB2 HH2
  go_wp2_with fail
  refine (bfield_any w3 w.heap.size HB3.out.size (.slice none 0 0) [] (OwnB.nil _ _) (by simp) ⟨1, 2, 0, headerB x⟩ _ HS3.out hbo.2.1 (by show (headerB x).length ≤ _; omega) hbo.1).mono ?_
  rintro e w4 ⟨v4, rfl, ho4, hg4⟩
  have hb4 : Below w3.heap.size w3 w4 := grownBy_none hg4
  have hel := enc_le hbo.1 hbo.2.1 hbo.2.2
  have hm1 : (blkFields x txs).take (1 + 0) = [bytF 1 (headerB x)] := rfl
  have ho4' : OwnB w4 w.heap.size v4 (msg ((blkFields x txs).take (1 + 0))) := by
    rw [hm1, ← List.nil_append [bytF 1 (headerB x)], msg_snoc]
    exact ho4
  have hl4 : (msg ((blkFields x txs).take (1 + 0))).length ≤ 2097172 := by
    rw [hm1, ← List.nil_append [bytF 1 (headerB x)], msg_snoc, List.length_append]
    have h1 : (enc (bytF 1 (headerB x))).length ≤ (headerB x).length + 20 := hel
    have h2 : (msg ([] : List Fld)).length = 0 := rfl
    omega
  have HO4 := Lib.hid ho4'
  have HL4 := Lib.hid hl4
  have HB4 := Lib.hid (HB3.out.trans (hb4.mono HB3.out.size))
  have ctv : w4.cell? ⟨g, 131, none⟩ = some (.slice A T c) := (hb4.cell (p := ⟨g, 131, none⟩) HK3.out.lt).trans ctv
  clear ho4 ho4' hg4 hb4 hel hm1 hl4 hbo hhl hhe HB3 HS3 HK3
  go_wp2_with fail
  clear ctv
  go_loopw [5, 49] (fun s i wr => ∃ j : Nat, i = .int .i64 (j : Int) ∧ j ≤ T ∧ Below w.heap.size w wr ∧ OwnB wr w.heap.size s (msg ((blkFields x txs).take (1 + j))) ∧ (msg ((blkFields x txs).take (1 + j))).length ≤ 2097172) (fun _ i _ => T - (intOf i).toNat)
  case atStart => exact ⟨0, rfl, Nat.zero_le _, HB4.out, HO4.out, HL4.out⟩
  case round =>
    obtain ⟨j, rfl, hj, hbr, hor, hlr⟩ := hrel
    obtain ⟨Ao, co, hvo⟩ := own_form (show wr.ownsRow w.heap.size 5 1 _ _ _ from hor)
    subst hvo
    have HBR := Lib.hid hbr
    have HLR := Lib.hid hlr
    have hzr := hbr.size
    obtain ⟨ol, hol⟩ : ∃ ol, (msg ((blkFields x txs).take (1 + j))).length = ol := ⟨_, rfl⟩
    rw [hol] at hor hlr ⊢
    have HOR := Lib.hid hor
    have HOL := Lib.hid hol
    clear hbr hor hol HO4 HL4 HB4
    rcases Nat.lt_or_ge j T with hlt | hge
    · have t1 : (j : Int) < (T : Int) := by omega
      have t0 : (0 : Int) ≤ (j : Int) := by omega
      obtain rfl := HA.out (by omega)
      have hjt : j < txs.length := by rw [HTT.out]; exact hlt
      obtain ⟨b, hb⟩ : ∃ b, txs[j]? = some b := ⟨_, List.getElem?_eq_getElem hjt⟩
      obtain ⟨u, hcu, hsu⟩ := HROWS.out j b hb
      obtain ⟨Au, cu, hue, hu1, hu2, hur⟩ := hsu
      have hsu : SeeB wr (.slice Au b.length cu) b := (show SeeB w (.slice Au b.length cu) b from ⟨Au, cu, rfl, hu1, hu2, hur⟩).below HBR.out
      have hcu : wr.cell? ⟨g2, o2 + j, none⟩ = some u := (HBR.out.cell (p := ⟨g2, o2 + j, none⟩) (World.block_lt_of_cell? w _ hcu)).trans hcu
      subst hue
      have hbm := txs_mem (List.mem_of_getElem? hb)
      have hb9 := HS9.out
      have HSN := Lib.hid (blkFields_snoc x txs hb)
      obtain ⟨bl, hbl⟩ : ∃ bl, b.length = bl := ⟨_, rfl⟩
      rw [hbl] at hsu hcu hbm
      have HSU := Lib.hid hsu
      have HBLL := Lib.hid hbl
      have g1 : IntKind.i64.wrap ((ol : Int) + (bl : Int)) = (ol : Int) + (bl : Int) := IntWalk.i64_in _ (by omega)
      clear hjt hb hsu hu1 hu2 hur hbl hb9
      by_cases hbig : 2097152 < ol + bl
      · have t6 : (2097152 : Int) < (ol : Int) + (bl : Int) := by omega
        have HE : Hid (encE x txs = 3) := Lib.hid (encE_long HN.out HM.out (by
          have h1 := form_take x txs (1 + (j + 1))
          rw [HSN.out, msg_snoc, List.length_append, HOL.out] at h1
          have h2 := enc_byt_ge b
          have := HBLL.out
          omega))
        go_wp2_with fail
        go_ret2
        exact ⟨HBR.out, .inr ⟨by rw [HE.out]; decide, by rw [HE.out]; rfl⟩⟩
      · have t6 : ¬ (2097152 : Int) < (ol : Int) + (bl : Int) := by omega
        have hbo := bytF_okay (i := 2) (b := b) (by omega) (by rw [HBLL.out]; omega)
        have hel := enc_le hbo.1 hbo.2.1 hbo.2.2
        have hor' : OwnB wr w.heap.size (.slice Ao ol co) (msg ((blkFields x txs).take (1 + j))) := HOR.out
        go_wp2_with fail
        refine (bfield_any wr w.heap.size hzr _ _ HOR.out (by rw [HOL.out]; omega) ⟨2, 2, 0, b⟩ _ HSU.out hbo.2.1 (by show b.length ≤ _; rw [HBLL.out]; omega) hbo.1).mono ?_
        rintro e w6 ⟨v6, rfl, ho6, hg6⟩
        have h6 : wr.ownsRow w.heap.size 5 1 (.slice Ao ol co) _ _ := hor'
        have HB6 := Lib.hid (HBR.out.grown hg6 hzr (fun k e => (h6.lt k e).1))
        have HO6 : Hid (OwnB w6 w.heap.size v6 (msg ((blkFields x txs).take (1 + (j + 1))))) := Lib.hid (by rw [HSN.out, msg_snoc]; exact ho6)
        have HL6 : Hid ((msg ((blkFields x txs).take (1 + (j + 1)))).length ≤ 2097172) := Lib.hid (by
          rw [HSN.out, msg_snoc, List.length_append, HOL.out]
          have h1 : (enc (bytF 2 b)).length ≤ b.length + 20 := hel
          have := HBLL.out
          omega)
        clear ho6 hg6 h6 hor' hbo hel
        go_wp2_with fail
        go_roundw
        case rel => exact ⟨j + 1, by go_num, by omega, HB6.out, HO6.out, HL6.out⟩
        case measure => simp [intOf]; omega
    · obtain rfl : j = T := by omega
      have t1 : ¬ (j : Int) < (j : Int) := by omega
      have hall : msg ((blkFields x txs).take (1 + j)) = form x txs := by rw [List.take_of_length_le (by rw [blkFields_len, HTT.out]; exact Nat.le_refl _)]; rfl
      rw [hall] at HOR HOL
      by_cases hbig : 2097152 < ol
      · have t6 : (2097152 : Int) < (ol : Int) := by omega
        have HE : Hid (encE x txs = 3) := Lib.hid (encE_long HN.out HM.out (by rw [HOL.out]; exact hbig))
        clear hall
        go_wp2_with fail
        go_ret2
        exact ⟨HBR.out, .inr ⟨by rw [HE.out]; decide, by rw [HE.out]; rfl⟩⟩
      · have t6 : ¬ (2097152 : Int) < (ol : Int) := by omega
        have HE : Hid (encE x txs = 0) := Lib.hid (encE_ok HN.out HM.out (by rw [HOL.out]; exact hbig))
        clear hall
        go_wp2_with fail
        go_ret2
        exact ⟨HBR.out, .inl ⟨HE.out, _, rfl, HOR.out⟩⟩

set_option maxRecDepth 100000 in
set_option maxHeartbeats 4000000 in
attribute [local go_sem ↓] wp_load_hd wp_store_hd wp_load_bl in
theorem renc_any (w : World) (x : Hd) (hx : x.fits) (tv : Value) (txs : List (List UInt8)) (ht : TxsAt w tv txs) (hsum : txs.length ≤ 512 → txsSum txs ≤ 999999000) :
    Calls Try.prog 12 #[blV x tv] w (EncOut w x txs) := by
  obtain ⟨cx, hcx⟩ : ∃ cx, (blCells x tv).toArray = cx := ⟨_, rfl⟩
  show Calls _ _ #[.agg (blCells x tv).toArray] _ _
  rw [hcx]
  have HCX := Lib.hid hcx
  have HX := Lib.hid hx
  have HSUM := Lib.hid hsum
  have HT := Lib.hid ht
  clear hcx ht hsum hx
  go_enter Try.func12, Try.ntmps12
  go_upto_region 1 with (fail)
  generalize hw1 : World.alloc _ _ = w1
  have hb1 : Below w.heap.size w w1 := by rw [← hw1]; exact (Below.refl _ _).alloc (Nat.le_refl _) _
  have hk1 : Blk w1 w.heap.size 28 (blCells x tv).toArray := by rw [← hw1, HCX.out]; exact heap_alloc_new _ _
  obtain ⟨g, hg⟩ : ∃ g, w.heap.size = g := ⟨_, rfl⟩
  rw [hg] at hk1
  have HGG := Lib.hid hg
  rw [show (⟨w.heap.size, 0, none⟩ : Addr) = ⟨g, 0, none⟩ by rw [hg]]
  have hat := bl_range hk1
  have q1 := aggOk_mk hat (hdCells_len x)
  have q2 := loadN_eq hat (hdCells_len x)
  have qs := hd_sto w1 (hdCells x) (hdCells_len x) (hdCells_one x)
  have HB1 := Lib.hid hb1
  have HK1 := Lib.hid hk1
  clear hw1 hb1 hk1 hat hg
  go_upto_region 2 with (fail)
  generalize hw2 : storeMid _ _ _ = w2
  obtain ⟨hb2, hh2⟩ := hd_end (hdCells_len x) hw2
  obtain ⟨gh, hgh⟩ : ∃ gh, w1.heap.size = gh := ⟨_, rfl⟩
  rw [hgh] at hh2 ⊢
  have hk2 := HK1.out.below hb2 HK1.out.lt
  have HK2 := Lib.hid hk2
  have HH2 := Lib.hid hh2
  have HB2 := Lib.hid (HB1.out.trans (hb2.mono HB1.out.size))
  obtain ⟨n0, n1, n2⟩ := (hd_range hh2).num
  obtain ⟨A, c, htv, hc1, hc2, g2, o2, hA, hrows⟩ := HT.out
  have ctv : w2.cell? ⟨g, 131, none⟩ = some tv := bl_tv hk2
  obtain ⟨T, hT⟩ : ∃ T, txs.length = T := ⟨_, rfl⟩
  rw [htv, hT] at ctv
  rw [hT] at hA hc1
  have HA := Lib.hid hA
  have HROWS := Lib.hid hrows
  have HTT := Lib.hid hT
  have HTV := Lib.hid htv
  clear q1 q2 qs hb2 hh2 hk2 hA hrows htv hT HK1 HB1 hw2 hgh
  by_cases b0 : x.h < 1
  · have hno : numsOk x = false := by unfold numsOk; simp; omega
    have HE := Lib.hid (encE_nums (txs := txs) hno)
    clear hno
    go_wp2_with fail
    go_ret2
    exact ⟨HB2.out, .inr ⟨by rw [HE.out]; decide, by rw [HE.out]; rfl⟩⟩
  by_cases b1 : 1073741824 < x.h
  · have hno : numsOk x = false := by unfold numsOk; simp; omega
    have HE := Lib.hid (encE_nums (txs := txs) hno)
    clear hno
    go_wp2_with fail
    go_ret2
    exact ⟨HB2.out, .inr ⟨by rw [HE.out]; decide, by rw [HE.out]; rfl⟩⟩
  by_cases b2 : x.t < 1
  · have hno : numsOk x = false := by unfold numsOk; simp; omega
    have HE := Lib.hid (encE_nums (txs := txs) hno)
    clear hno
    go_wp2_with fail
    go_ret2
    exact ⟨HB2.out, .inr ⟨by rw [HE.out]; decide, by rw [HE.out]; rfl⟩⟩
  by_cases b3 : 1099511627776 < x.t
  · have hno : numsOk x = false := by unfold numsOk; simp; omega
    have HE := Lib.hid (encE_nums (txs := txs) hno)
    clear hno
    go_wp2_with fail
    go_ret2
    exact ⟨HB2.out, .inr ⟨by rw [HE.out]; decide, by rw [HE.out]; rfl⟩⟩
  by_cases b4 : x.p < 0
  · have hno : numsOk x = false := by unfold numsOk; simp; omega
    have HE := Lib.hid (encE_nums (txs := txs) hno)
    clear hno
    go_wp2_with fail
    go_ret2
    exact ⟨HB2.out, .inr ⟨by rw [HE.out]; decide, by rw [HE.out]; rfl⟩⟩
  by_cases b5 : 8 ≤ x.p
  · have hno : numsOk x = false := by unfold numsOk; simp; omega
    have HE := Lib.hid (encE_nums (txs := txs) hno)
    clear hno
    go_wp2_with fail
    go_ret2
    exact ⟨HB2.out, .inr ⟨by rw [HE.out]; decide, by rw [HE.out]; rfl⟩⟩
  have hnums : numsOk x = true := by unfold numsOk; simp; omega
  have HN := Lib.hid hnums
  clear hnums
  by_cases hmany : 512 < T
  · have t5 : (512 : Int) < (T : Int) := by omega
    have HE := Lib.hid (encE_many HN.out (by rw [HTT.out]; exact hmany))
    go_wp2_with fail
    go_ret2
    exact ⟨HB2.out, .inr ⟨by rw [HE.out]; decide, by rw [HE.out]; rfl⟩⟩
  have t5 : ¬ (512 : Int) < (T : Int) := by omega
  have HM : Hid (¬ 512 < txs.length) := Lib.hid (by rw [HTT.out]; exact hmany)
  have hs9 : txsSum txs ≤ 999999000 := HSUM.out (by have := HM.out; omega)
  have HS9 := Lib.hid hs9
  clear hs9 hmany
  have hrg : w2.rangeAt g 0 (blCells x tv) := fun j u hu => by rw [Nat.zero_add, HK2.out.cell]; exact List.getElem?_toArray.trans hu
  have q1 := aggOk_mk hrg (blCells_len x tv)
  have q2 := loadN_eq hrg (blCells_len x tv)
  clear hrg
  go_wp2_with fail
  refine (form_any w2 x HX.out tv txs (HT.out.below HB2.out) HS9.out).mono ?_
  rintro e w3 ⟨v3, rfl, hb3, ho3⟩
  obtain ⟨A3, c3, he3⟩ := own_form (show w3.ownsRow w2.heap.size 5 1 v3 _ _ from ho3)
  subst he3
  have HB3 := Lib.hid (HB2.out.trans (hb3.mono HB2.out.size))
  have ho3' := ho3.less HB2.out.size
  obtain ⟨ol, hol⟩ : ∃ ol, (form x txs).length = ol := ⟨_, rfl⟩
  rw [hol] at ho3' ⊢
  have HO3 := Lib.hid ho3'
  have HOL := Lib.hid hol
  clear hb3 ho3 ho3' q1 q2 hol ctv
  by_cases hbig : 2097152 < ol
  · have t6 : (2097152 : Int) < (ol : Int) := by omega
    have HE : Hid (encE x txs = 3) := Lib.hid (encE_long HN.out HM.out (by rw [HOL.out]; exact hbig))
    go_wp2_with fail
    go_ret2
    exact ⟨HB3.out, .inr ⟨by rw [HE.out]; decide, by rw [HE.out]; rfl⟩⟩
  · have t6 : ¬ (2097152 : Int) < (ol : Int) := by omega
    have HE : Hid (encE x txs = 0) := Lib.hid (encE_ok HN.out HM.out (by rw [HOL.out]; exact hbig))
    go_wp2_with fail
    go_ret2
    exact ⟨HB3.out, .inl ⟨HE.out, _, rfl, HO3.out⟩⟩
end Go.Proofs.Ytnhggaghidbniaa
