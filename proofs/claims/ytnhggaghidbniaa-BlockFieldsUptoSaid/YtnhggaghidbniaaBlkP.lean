/- Boxes of headers and blocks; the form of a block. -/
import Derived.Test.YtnhggaghidbniaaBlkO
namespace Go.Proofs.Ytnhggaghidbniaa
open Go.RowKit
set_option linter.unusedVariables false
set_option linter.unusedSimpArgs false
open Wir
set_option maxRecDepth 100000

theorem hdZ_size : (Try.zeroCells25).size = 131 := by kernel_rfl
theorem hd_sto (W : World) (cs : List Value) (hl : cs.length = 131) (h1 : ∀ u ∈ cs, u.oneCell' = true) : StoOk 131 (W.alloc (.cells Try.zeroCells25 25)) (.pointer (some ⟨W.heap.size, 0, none⟩)) (.agg cs.toArray) :=
  ⟨_, 0, _, rfl, rfl, hl, blk_there (heap_alloc_new _ _) (by rw [hdZ_size]; exact Nat.le_refl _), h1⟩
theorem hd_end {W W' : World} {cs : List Value} (hl : cs.length = 131) (h : storeMid (W.alloc (.cells Try.zeroCells25 25)) (.pointer (some ⟨W.heap.size, 0, none⟩)) (.agg cs.toArray) = W') :
    Below W.heap.size W W' ∧ Blk W' W.heap.size 25 cs.toArray := by
  rw [storeMid_eq] at h
  rw [← h]
  exact ⟨Only.below_trans ((Below.refl _ _).alloc (Nat.le_refl _) _) (setCells_only (fun k => k = W.heap.size) _ W.heap.size 0 _ (.inl rfl)) (by simp) (fun k hk => Nat.le_of_eq hk.symm), setCells_whole (heap_alloc_new _ _) (by rw [hl]; exact hdZ_size)⟩

theorem blZ_size : (Try.zeroCells28).size = 132 := by kernel_rfl
theorem bl_sto (W : World) (cs : List Value) (hl : cs.length = 132) (h1 : ∀ u ∈ cs, u.oneCell' = true) : StoOk 132 (W.alloc (.cells Try.zeroCells28 28)) (.pointer (some ⟨W.heap.size, 0, none⟩)) (.agg cs.toArray) :=
  ⟨_, 0, _, rfl, rfl, hl, blk_there (heap_alloc_new _ _) (by rw [blZ_size]; exact Nat.le_refl _), h1⟩
theorem bl_end {W W' : World} {cs : List Value} (hl : cs.length = 132) (h : storeMid (W.alloc (.cells Try.zeroCells28 28)) (.pointer (some ⟨W.heap.size, 0, none⟩)) (.agg cs.toArray) = W') :
    Below W.heap.size W W' ∧ Blk W' W.heap.size 28 cs.toArray := by
  rw [storeMid_eq] at h
  rw [← h]
  exact ⟨Only.below_trans ((Below.refl _ _).alloc (Nat.le_refl _) _) (setCells_only (fun k => k = W.heap.size) _ W.heap.size 0 _ (.inl rfl)) (by simp) (fun k hk => Nat.le_of_eq hk.symm), setCells_whole (heap_alloc_new _ _) (by rw [hl]; exact blZ_size)⟩

theorem bl_range {w : World} {g : Nat} {x : Hd} {tv : Value} (h : Blk w g 28 (blCells x tv).toArray) : HdAt w g 0 x := fun j u hu => by
  rw [Nat.zero_add, h.cell]
  exact List.getElem?_toArray.trans (blCells_hd hu)
theorem bl_tv {w : World} {g : Nat} {x : Hd} {tv : Value} (h : Blk w g 28 (blCells x tv).toArray) : w.cell? ⟨g, 131, none⟩ = some tv := by
  rw [h.cell]
  exact List.getElem?_toArray.trans (blCells_tv x tv)
theorem hd_range {w : World} {g : Nat} {x : Hd} (h : Blk w g 25 (hdCells x).toArray) : HdAt w g 0 x := fun j u hu => by
  rw [Nat.zero_add, h.cell]
  exact List.getElem?_toArray.trans hu
/-- the state of Form's loop -/
def FmRel (w1 : World) (fs : List Fld) (wr : World) (v : Value) : Prop := Below w1.heap.size w1 wr ∧ ∃ items, OwnF wr w1.heap.size v items ∧ items.map FItem.f = fs ∧ ∀ x ∈ items, SeeB w1 x.v x.f.bytes
theorem blkFields_snoc (x : Hd) (txs : List (List UInt8)) {j : Nat} {b : List UInt8} (h : txs[j]? = some b) : (blkFields x txs).take (1 + (j + 1)) = (blkFields x txs).take (1 + j) ++ [bytF 2 b] := by
  obtain ⟨hl, e⟩ := List.getElem?_eq_some_iff.1 h
  unfold blkFields
  rw [Nat.add_comm 1, Nat.add_comm 1, List.take_succ_cons, List.take_succ_cons, ← List.map_take, ← List.map_take, List.take_succ_eq_append_getElem hl, e, List.map_append]
  rfl
theorem blkFields_len (x : Hd) (txs : List (List UInt8)) : (blkFields x txs).length = 1 + txs.length := by unfold blkFields; rw [List.length_cons, List.length_map]; omega
def txsSum (txs : List (List UInt8)) : Nat := fieldsSum (txs.map (bytF 2))
theorem blkSum {x : Hd} (hx : x.fits) {txs : List (List UInt8)} (h : txsSum txs ≤ 999999000) : fieldsSum (blkFields x txs) ≤ 1000000000 := by
  unfold blkFields
  rw [fieldsSum_cons]
  have h1 := headerB_le hx
  have h2 : fieldsSum (txs.map (bytF 2)) ≤ 999999000 := h
  show (headerB x).length + 20 + _ ≤ _
  omega
theorem txs_mem {txs : List (List UInt8)} {b : List UInt8} (hb : b ∈ txs) : b.length + 20 ≤ txsSum txs := fieldsSum_mem _ (bytF 2 b) (List.mem_map.2 ⟨b, hb, rfl⟩)
theorem txs_len : ∀ txs : List (List UInt8), txs.length * 20 ≤ txsSum txs
  | [] => by simp
  | a :: l => by
    have ih := txs_len l
    unfold txsSum at ih ⊢
    rw [List.map_cons, fieldsSum_cons, List.length_cons]
    omega
theorem ownF_one {w : World} (n k : Int) (q : Nat) (b : List UInt8) (u : Value) (base : Nat) (hb : base ≤ w.heap.size) : OwnF (w.alloc (.cells #[.int .i64 n, .int .i64 k, .int .u64 (q : Int), u] 50)) base (.slice (some ⟨w.heap.size, 0, none⟩) 1 1) [⟨⟨n, k, q, b⟩, u⟩] :=
  ⟨rfl, .inr ⟨w.heap.size, 1, _, rfl, hb, heap_alloc_new _ _, Nat.le_refl _, by unfold maxLen; omega, rfl, rfl⟩⟩
set_option maxHeartbeats 4000000 in
attribute [local go_sem ↓] wp_load_hd in
theorem form_any (w : World) (x : Hd) (hx : x.fits) (tv : Value) (txs : List (List UInt8)) (ht : TxsAt w tv txs) (hsum : txsSum txs ≤ 999999000) :
    Calls Try.prog 16 #[blV x tv] w fun e w' => ∃ v, e = .returned v ∧ Below w.heap.size w w' ∧ OwnB w' w.heap.size v (form x txs) := by
  obtain ⟨i0, hi0, hz0, hz1, hz2⟩ := info_parts fld_info
  have HI0 := Lib.hid hi0
  have HZ0 := Lib.hid hz0
  obtain ⟨cx, hcx⟩ : ∃ cx, (blCells x tv).toArray = cx := ⟨_, rfl⟩
  show Calls _ _ #[.agg (blCells x tv).toArray] _ _
  rw [hcx]
  have HCX := Lib.hid hcx
  have HX := Lib.hid hx
  have HSUM := Lib.hid hsum
  have HT := Lib.hid ht
  clear hx hcx hi0 hz0 ht hsum
  go_enter Try.func16, Try.ntmps16
  go_upto_region 1 with (fail)
  generalize hw1 : World.alloc _ _ = w1
  have hb1 : Below w.heap.size w w1 := by rw [← hw1]; exact (Below.refl _ _).alloc (Nat.le_refl _) _
  have hk1 : Blk w1 w.heap.size 28 (blCells x tv).toArray := by rw [← hw1, HCX.out]; exact heap_alloc_new _ _
  obtain ⟨g, hg⟩ : ∃ g, w.heap.size = g := ⟨_, rfl⟩
  rw [hg] at hk1 ⊢
  have HGG := Lib.hid hg
  have HK1 := Lib.hid hk1
  have HB1 := Lib.hid hb1
  have hat := bl_range hk1
  have q1 := aggOk_mk hat (hdCells_len x)
  have q2 := loadN_eq hat (hdCells_len x)
  clear hw1 hb1 hk1 hat hg
  go_wp2_with fail
  refine (rheader_any w1 x HX.out).mono ?_
  rintro e w2 ⟨v2, rfl, hb2, ho2⟩
  obtain ⟨A2, c2, he2⟩ := own_form (show w2.ownsRow w1.heap.size 5 1 v2 _ _ from ho2)
  subst he2
  obtain ⟨hl, hhl⟩ : ∃ hl, (headerB x).length = hl := ⟨_, rfl⟩
  have hs2 : SeeB w2 (.slice A2 hl c2) (headerB x) := by rw [← hhl]; exact ho2.see
  rw [hhl]
  have HS2 := Lib.hid hs2
  have HB2 := Lib.hid (HB1.out.trans (hb2.mono HB1.out.size))
  have hk2 := HK1.out.below hb2 HK1.out.lt
  have HK2 := Lib.hid hk2
  have HHL := Lib.hid hhl
  obtain ⟨A, c, htv, hc1, hc2, g2, o2, hA, hrows⟩ := HT.out
  have ctv : w2.cell? ⟨g, 131, none⟩ = some tv := bl_tv hk2
  obtain ⟨T, hT⟩ : ∃ T, txs.length = T := ⟨_, rfl⟩
  rw [htv, hT] at ctv
  rw [hT] at hA hc1
  have HA := Lib.hid hA
  have HROWS := Lib.hid hrows
  have HTT := Lib.hid hT
  clear q1 q2 hb2 ho2 hhl hs2 hk2 hA hrows htv hT HK1 HB1
  go_upto_region 2 with (refine wpList_buildSlice rfl 46 50 1 _ rfl #[.int .i64 1, .int .i64 2, .int .u64 0, .slice A2 hl c2] i0 _ Try.underlying46 HI0.out HZ0.out (by rw [hz1]; omega) (by rw [hz1]; omega) (by simp only [List.map_toArray, List.map_cons, List.map_nil]; exact fld_fill _ _ _ _ i0 hz1) ?_)
  generalize hw3 : World.alloc _ _ = w3
  have h3 : Below w2.heap.size w2 w3 ∧ OwnF w3 w2.heap.size (.slice (some ⟨w2.heap.size, 0, none⟩) 1 1) [⟨⟨1, 2, 0, headerB x⟩, .slice A2 hl c2⟩] := by
    rw [← hw3]
    exact ⟨(Below.refl _ _).alloc (Nat.le_refl _) _, ownF_one 1 2 0 (headerB x) _ _ (Nat.le_refl _)⟩
  have HR3 : Hid (FmRel w2 ((blkFields x txs).take (1 + 0)) w3 (.slice (some ⟨w2.heap.size, 0, none⟩) 1 1)) := Lib.hid ⟨h3.1, _, h3.2, rfl, fun y hy => by obtain rfl := List.mem_singleton.1 hy; exact HS2.out⟩
  have ctv : w3.cell? ⟨g, 131, none⟩ = some (.slice A T c) := (h3.1.cell (p := ⟨g, 131, none⟩) HK2.out.lt).trans ctv
  clear hw3 h3
  go_wp2_with fail
  clear ctv
  go_loopw [3, 14] (fun s i wr => ∃ j : Nat, i = .int .i64 (j : Int) ∧ j ≤ T ∧ FmRel w2 ((blkFields x txs).take (1 + j)) wr s) (fun _ i _ => T - (intOf i).toNat)
  case atStart => exact ⟨0, rfl, Nat.zero_le _, HR3.out⟩
  case round =>
    obtain ⟨j, rfl, hj, hbr, items, hrow, hmap, hsee⟩ := hrel
    have HBR := Lib.hid hbr
    have HROW := Lib.hid hrow
    have HMAP := Lib.hid hmap
    have HSEE := Lib.hid hsee
    have hz2 := HB2.out.size
    clear hbr hrow hsee HR3
    rcases Nat.lt_or_ge j T with hlt | hge
    · have t1 : (j : Int) < (T : Int) := by omega
      have t0 : (0 : Int) ≤ (j : Int) := by omega
      obtain rfl := HA.out (by omega)
      have hjt : j < txs.length := by rw [HTT.out]; exact hlt
      obtain ⟨b, hb⟩ : ∃ b, txs[j]? = some b := ⟨_, List.getElem?_eq_getElem hjt⟩
      obtain ⟨u, hcu, hsu⟩ := HROWS.out j b hb
      obtain ⟨Au, cu, hue, hu1, hu2, hur⟩ := hsu
      have hsu : SeeB w2 (.slice Au b.length cu) b := (show SeeB w (.slice Au b.length cu) b from ⟨Au, cu, rfl, hu1, hu2, hur⟩).below HB2.out
      have hcu : wr.cell? ⟨g2, o2 + j, none⟩ = some u := ((HB2.out.trans (HBR.out.mono hz2)).cell (p := ⟨g2, o2 + j, none⟩) (World.block_lt_of_cell? w _ hcu)).trans hcu
      subst hue
      obtain ⟨bl, hbl⟩ : ∃ bl, b.length = bl := ⟨_, rfl⟩
      rw [hbl] at hsu hcu
      have hil : items.length ≤ 1073741824 := by
        have h1 := congrArg List.length hmap
        rw [List.length_map, List.length_take, blkFields_len] at h1
        have h2 := txs_len txs
        have := HSUM.out
        omega
      have HSU := Lib.hid hsu
      have HSN := Lib.hid (blkFields_snoc x txs hb)
      have hzr := HBR.out.size
      clear hmap hjt hb hsu hu1 hu2 hur hbl
      go_wp2_with (first
        | (refine wpList_buildSlice rfl 46 50 1 _ rfl #[.int .i64 2, .int .i64 2, .int .u64 0, .slice Au bl cu] i0 _ Try.underlying46 HI0.out HZ0.out (by rw [hz1]; omega) (by rw [hz1]; omega) (by simp only [List.map_toArray, List.map_cons, List.map_nil]; exact fld_fill _ _ _ _ i0 hz1) ?_)
        | (at_builtin
           refine wpList_app_fld rfl (.tmp 18) (.tmp 21) rfl w2.heap.size _ items rfl HROW.out 2 2 0 b _ rfl rfl hil hzr ?_
           intro v7 w7 ho7 hb7 hg7
           have HR7 : Hid (FmRel w2 ((blkFields x txs).take (1 + (j + 1))) w7 v7) := Lib.hid ⟨HBR.out.trans hb7, _, ho7, by rw [List.map_append, HMAP.out, HSN.out]; rfl, fun y hy => by
             rcases List.mem_append.1 hy with hy | hy
             · exact HSEE.out y hy
             · obtain rfl := List.mem_singleton.1 hy
               exact HSU.out⟩
           clear ho7 hb7 hg7))
      go_roundw
      case rel => exact ⟨j + 1, by go_num, by omega, HR7.out⟩
      case measure => simp [intOf]; omega
    · obtain rfl : j = T := by omega
      have t1 : ¬ (j : Int) < (j : Int) := by omega
      obtain ⟨A7, c7, hv7, hfa⟩ := HROW.out.form (fun y hy => (HSEE.out y hy).below HBR.out)
      subst hv7
      rw [List.take_of_length_le (by rw [blkFields_len, HTT.out]; exact Nat.le_refl _)] at hmap
      have htl : ∀ b ∈ txs, b.length < 2 ^ 64 := fun b hb => by have h1 := txs_mem hb; have h2 := HSUM.out; omega
      have hok := blkFields_okay HX.out htl
      have hm := message_any wr A7 _ c7 items hfa (by rw [hmap]; exact blkSum HX.out HSUM.out) (fun y hy => (hok y.f (by rw [← hmap]; exact List.mem_map.2 ⟨y, hy, rfl⟩)).2.1)
      rw [hmap, msgR_right _ (fun f hf => (hok f hf).1)] at hm
      have HM := Lib.hid hm
      have HBW := Lib.hid (HB2.out.trans (HBR.out.mono hz2))
      obtain ⟨il, hil⟩ : ∃ il, items.length = il := ⟨_, rfl⟩
      rw [hil] at HM ⊢
      clear hm hfa hmap hok htl hil
      go_wp2_with fail
      refine HM.out.mono ?_
      rintro e w8 ⟨v8, rfl, hb8, ho8⟩
      have H8 := Lib.hid (HBW.out.trans (hb8.mono HBW.out.size))
      have HO8 := Lib.hid (ho8.less HBW.out.size)
      clear hb8 ho8
      go_wp2_with fail
      go_ret
      have e := HGG.out
      subst e
      exact ⟨_, rfl, H8.out, HO8.out⟩
end Go.Proofs.Ytnhggaghidbniaa
