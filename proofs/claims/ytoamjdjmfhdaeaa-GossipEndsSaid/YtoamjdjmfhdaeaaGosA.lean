/- gossip.set, gossip.Prune; Prune and At of the reference. -/
import Derived.Test.YtoamjdjmfhdaeaaGosE
import Derived.Deep.RegionLaw
namespace Go.Proofs.Ytoamjdjmfhdaeaa
open Go.RowKit
set_option linter.unusedVariables false
set_option linter.unusedSimpArgs false
open ShaW Sha

theorem unit_zero (w : World) : (zeroValue 53).run Try.prog w = .ok (.agg #[]) w := by kernel_rfl
theorem set_all {W : World} {b : Nat} {ps : List Ky} {n : Nat} (h : SetAt W b n ps) (hn : ps.length = n) : ∃ D : DataW Unit, W.ownsMap Try.prog 41 unitElem b n D ∧ ∀ k, Maps.has D (klit k) = hasK ps k := by
  obtain ⟨D, h1, h2, _⟩ := h
  rw [List.take_of_length_le (by omega)] at h2
  exact ⟨D, h1, h2⟩
set_option maxRecDepth 100000 in
set_option maxHeartbeats 4000000 in
attribute [local go_sem ↓] wp_load_k in
theorem gset_any (w : World) (A : Option Addr) (m c : Nat) (ps : List Ky) (h : KeysAt w A m c ps) (hm47 : m ≤ 977343669106) :
    Calls Try.prog 30 #[.slice A m c] w fun e w' => e = .returned (.map (some w.heap.size)) ∧ Below w.heap.size w w' ∧ SetAt w' w.heap.size m ps := by
  have hmm := @run_makeMap Try.prog
  have HK := Lib.hid h
  clear h
  go_enter Try.func30, Try.ntmps30
  go_wp2_with fail
  generalize hwa : World.alloc w _ = wa
  have hb0 : Below w.heap.size w wa := by rw [← hwa]; exact (Below.refl _ _).alloc (Nat.le_refl _) _
  have hs0 : SetAt wa w.heap.size 0 ps := by rw [← hwa]; exact ⟨.map [], World.ownsMap_made _ _ _ _, fun k => rfl, rfl⟩
  have HB0 := Lib.hid hb0
  have HS0 := Lib.hid hs0
  have hz0 := hb0.size
  clear hwa hb0 hs0 hmm
  go_loopw [9] (fun i wr => ∃ n : Nat, n ≤ m ∧ i = .int .i64 (n : Int) ∧ Below w.heap.size w wr ∧ SetAt wr w.heap.size n ps) (fun i _ => m - (intOf i).toNat)
  case atStart => exact ⟨0, by omega, rfl, HB0.out, HS0.out⟩
  case round =>
    obtain ⟨n, hn, rfl, hbr, hsr⟩ := hrel
    have HBR := Lib.hid hbr
    have HSR := Lib.hid hsr
    have hzr := hbr.size
    clear hbr hsr
    rcases Nat.lt_or_ge n m with hlt | hge
    · have hlt' : (n : Int) < m := by omega
      have hn0 : (0 : Int) ≤ n := by omega
      obtain ⟨g, o, hA, hat⟩ := HK.out.at_
      obtain rfl := hA (by omega)
      obtain ⟨kk, hkk, hcell⟩ := hat n hlt
      have hc2 : ∀ j u, (bytesOf 32 kk)[j]? = some u → wr.cell? ((⟨g, o + n * 32, none⟩ : Addr).add j) = some u := fun j u hu => (HBR.out.cell (p := (⟨g, o + n * 32, none⟩ : Addr).add j) (World.block_lt_of_cell? w _ (hcell j u hu))).trans (hcell j u hu)
      have HKK := Lib.hid hkk
      have q1 := keyOk_mk hc2
      have q2 := loadK_eq hc2
      clear hA hat hkk hcell hc2
      go_wp2_with (first
        | (at_mapUpdate
           refine wpList_mapUpdate_own _ rfl _ _ _ 52 rfl 41 53 key_keyed Try.underlying52 unitElem w.heap.size n D rfl HOWN.out (by unfold maxLen; omega) _ _ (klit kk) rfl rfl (klit_of kk) (.agg []) [] unitElem_mk ?_
           intro w5 hown5 hgrow5)
        | (refine wpList_store_rowTo rfl 41 (.tmp 5) (.tmp 12) rfl rfl wr.heap.size (bytesOf 32 kk).toArray rfl rfl _ _ (heap_alloc_new _ _) (by rw [keyV_size]; kernel_rfl) (by rw [keyV_size]; kernel_rfl) (keyV_one _) ?_
           generalize hwc : World.setRow _ _ _ = wc
           have hkc := blk_key (k := kk) (g := wr.heap.size) (W := wc) (by rw [← hwc]; exact (setRow_same _ _ _ _ _ (heap_alloc_new _ _)))
           have hbc : Below wr.heap.size wr wc := by rw [← hwc]; exact below_setRow ((Below.refl _ _).alloc (Nat.le_refl _) _) (Nat.le_refl _) _
           obtain ⟨D, hown, hhas, hsize⟩ := HSR.out.kept hbc
           have hbcw := HBR.out.trans (hbc.mono hzr)
           have HOWN := Lib.hid hown
           have HHAS := Lib.hid hhas
           have HSIZE := Lib.hid hsize
           have HBC := Lib.hid hbcw
           have hzc := hbcw.size
           have r1 := keyOk_mk hkc
           have r2 := loadK_eq hkc
           clear hwc hkc hbc hown hhas hsize hbcw))
      have hb5 : Below w.heap.size w w5 := HBC.out.grown hgrow5 hzc (fun k e => by injection e with e; omega)
      have hs5 : SetAt w5 w.heap.size (n + 1) ps := by
        obtain ⟨h1, h2⟩ := set_put HOWN.out.isMap (HOWN.out.tidy key_keyed) HKK.out HHAS.out HSIZE.out
        exact ⟨_, hown5, h1, h2⟩
      have HB5 := Lib.hid hb5
      have HS5 := Lib.hid hs5
      clear hb5 hs5 hown5 hgrow5
      go_roundw
      case rel => exact ⟨n + 1, by omega, by go_num, HB5.out, HS5.out⟩
      case measure => simp [intOf]; omega
    · have hge' : ¬ (n : Int) < m := by omega
      obtain rfl : n = m := by omega
      go_wp2_with fail
      go_ret
      exact ⟨rfl, HBR.out, HSR.out⟩

/-- what a loop over keys has appended -/
def PrAt (w wr : World) (v : Value) (ps : List Ky) : Prop := Below w.heap.size w wr ∧ OwnK wr w.heap.size v ps
def KeysOut (w w' : World) (v : Value) (ps : List Ky) : Prop := Below w.heap.size w w' ∧ OwnK w' w.heap.size v ps
theorem OwnK.less {w : World} {base base' : Nat} {v : Value} {ps : List Ky} (h : OwnK w base v ps) (hb : base' ≤ base) : OwnK w base' v ps := owns_base2 h hb
set_option maxRecDepth 100000 in
set_option maxHeartbeats 4000000 in
attribute [local go_sem ↓] wp_load_k wp_load_ent wp_store_ent in
theorem gprune_any (w : World) (A : Option Addr) (m c : Nat) (ps : List Ky) (h : KeysAt w A m c ps) (hm47 : m ≤ 977343669106) (A' : Option Addr) (m' c' : Nat) (l : List EItem) (h' : EntsAt w A' m' c' l) (hm' : m' ≤ 977343669106) :
    Calls Try.prog 11 #[.slice A m c, .slice A' m' c'] w fun e w' => ∃ v, e = .returned v ∧ KeysOut w w' v (pruneK ps l) := by
  obtain ⟨i0, hi0, hz0, hz1, hz2⟩ := info_parts key_info
  have HI0 := Lib.hid hi0
  have HZ0 := Lib.hid hz0
  have hmm := @run_makeMap Try.prog
  have HK := Lib.hid h
  have HE := Lib.hid h'
  have HL := Lib.hid h.1
  clear h h' hi0 hz0
  go_enter Try.func11, Try.ntmps11
  go_wp2_with fail
  generalize hwa : World.alloc w _ = wa
  have hb0 : Below w.heap.size w wa := by rw [← hwa]; exact (Below.refl _ _).alloc (Nat.le_refl _) _
  have hs0 : SetAt wa w.heap.size 0 (entKeys l) := by rw [← hwa]; exact ⟨.map [], World.ownsMap_made _ _ _ _, fun k => rfl, rfl⟩
  have HB0 := Lib.hid hb0
  have HS0 := Lib.hid hs0
  have hz0 := hb0.size
  clear hwa hb0 hs0 hmm
  go_loopw [16] (fun i wr => ∃ n : Nat, n ≤ m' ∧ i = .int .i64 (n : Int) ∧ Below w.heap.size w wr ∧ SetAt wr w.heap.size n (entKeys l)) (fun i _ => m' - (intOf i).toNat)
  case atStart => exact ⟨0, by omega, rfl, HB0.out, HS0.out⟩
  case round =>
    obtain ⟨n, hn, rfl, hbr, hsr⟩ := hrel
    have HBR := Lib.hid hbr
    have HSR := Lib.hid hsr
    have hzr := hbr.size
    clear hbr hsr
    rcases Nat.lt_or_ge n m' with hlt | hge
    · have hlt' : (n : Int) < m' := by omega
      have hn0 : (0 : Int) ≤ n := by omega
      obtain ⟨g, o, hA, hat⟩ := (HE.out.below HBR.out).at_
      obtain rfl := hA (by omega)
      obtain ⟨x, hx, hr, hrd⟩ := hat n hlt
      have hkk : (entKeys l)[n]? = some x.e.key := by unfold entKeys; rw [List.getElem?_map, hx]; rfl
      have HKK := Lib.hid hkk
      have q1 := aggOk_mk hr (entCells_len _ _ _)
      have q2 := loadN_eq hr (entCells_len _ _ _)
      have qs := box_sto wr x.e x.rv x.pv hrd.one
      obtain ⟨kk, hkx⟩ : ∃ kk, x.e.key = kk := ⟨_, rfl⟩
      rw [hkx] at HKK
      clear hA hat hkk hr
      go_upto_region 5 with (fail)
      generalize hwc : storeMid _ _ _ = wc
      have hbx := box_end hwc
      have hkc := blk_ent_key hbx.2
      rw [hkx] at hkc
      obtain ⟨D, hown, hhas, hsize⟩ := HSR.out.kept hbx.1
      have hbcw := HBR.out.trans (hbx.1.mono hzr)
      have HOWN := Lib.hid hown
      have HHAS := Lib.hid hhas
      have HSIZE := Lib.hid hsize
      have HBC := Lib.hid hbcw
      have hzc := hbcw.size
      have r1 := keyOk_mk hkc
      have r2 := loadK_eq hkc
      clear hwc hkc hbx hown hhas hsize hbcw q1 q2 qs
      go_wp2_with (first
        | (at_mapUpdate
           refine wpList_mapUpdate_own _ rfl _ _ _ 52 rfl 41 53 key_keyed Try.underlying52 unitElem w.heap.size n D rfl HOWN.out (by unfold maxLen; omega) _ _ (klit kk) rfl rfl (klit_of kk) (.agg []) [] unitElem_mk ?_
           intro w5 hown5 hgrow5))
      have hb5 : Below w.heap.size w w5 := HBC.out.grown hgrow5 hzc (fun k e => by injection e with e; omega)
      have hs5 : SetAt w5 w.heap.size (n + 1) (entKeys l) := by
        obtain ⟨h1, h2⟩ := set_put HOWN.out.isMap (HOWN.out.tidy key_keyed) HKK.out HHAS.out HSIZE.out
        exact ⟨_, hown5, h1, h2⟩
      have HB5 := Lib.hid hb5
      have HS5 := Lib.hid hs5
      clear hb5 hs5 hown5 hgrow5
      go_roundw
      case rel => exact ⟨n + 1, by omega, by go_num, HB5.out, HS5.out⟩
      case measure => simp [intOf]; omega
    · have hge' : ¬ (n : Int) < m' := by omega
      obtain rfl : n = m' := by omega
      obtain ⟨wh, hwh⟩ : ∃ wh, wr = wh := ⟨_, rfl⟩
      have hss := set_all HSR.out (by unfold entKeys; rw [List.length_map]; exact HE.out.len)
      have HK2 := Lib.hid (HK.out.below HBR.out)
      rw [hwh] at hss HBR HK2 hzr ⊢
      clear hwh
      obtain ⟨D, hD, hhas⟩ := hss
      have HD := Lib.hid hD
      have HHAS := Lib.hid hhas
      have hDlt := hD.lt
      clear hD hhas HSR
      go_wp2_with fail
      go_loopw [8, 27] (fun v i wq => ∃ j : Nat, j ≤ m ∧ i = .int .i64 (j : Int) ∧ PrAt wh wq v ((ps.take j).filter (hasK (entKeys l)))) (fun _ i _ => m - (intOf i).toNat)
      case atStart => exact ⟨0, by omega, rfl, Below.refl _ _, OwnK.nil _ _⟩
      case round =>
        obtain ⟨j, hj, rfl, hbq, hoq⟩ := hrel
        have HBQ := Lib.hid hbq
        have HOQ := Lib.hid hoq
        have hzq := hbq.size
        clear hbq hoq
        rcases Nat.lt_or_ge j m with hlt | hge
        · have hlt' : (j : Int) < m := by omega
          have hj0 : (0 : Int) ≤ j := by omega
          obtain ⟨g, o, hA, hat⟩ := HK2.out.at_
          obtain rfl := hA (by omega)
          obtain ⟨kk, hkk, hcell⟩ := hat j hlt
          have hc2 : ∀ i u, (bytesOf 32 kk)[i]? = some u → wr.cell? ((⟨g, o + j * 32, none⟩ : Addr).add i) = some u := fun i u hu => (HBQ.out.cell (p := (⟨g, o + j * 32, none⟩ : Addr).add i) (World.block_lt_of_cell? wh _ (hcell i u hu))).trans (hcell i u hu)
          have HKK := Lib.hid hkk
          have q1 := keyOk_mk hc2
          have q2 := loadK_eq hc2
          clear hA hat hkk hcell hc2
          go_upto_region 11 with (refine wpList_store_rowTo rfl 41 (.tmp 10) (.tmp 30) rfl rfl wr.heap.size (bytesOf 32 kk).toArray rfl rfl _ _ (heap_alloc_new _ _) (by rw [keyV_size]; kernel_rfl) (by rw [keyV_size]; kernel_rfl) (keyV_one _) ?_)
          generalize hwc : World.setRow _ _ _ = wc
          have hbk : Blk wc wr.heap.size 41 (bytesOf 32 kk).toArray := by rw [← hwc]; exact (setRow_same _ _ _ _ _ (heap_alloc_new _ _))
          have hbc : Below wr.heap.size wr wc := by rw [← hwc]; exact below_setRow ((Below.refl _ _).alloc (Nat.le_refl _) _) (Nat.le_refl _) _
          have hbd : Below wr.heap.size wr (wc.alloc (.cells #[] 53)) := hbc.alloc hbc.size _
          have hkd := blk_key (hbk.alloc (.cells #[] 53))
          have r1 := keyOk_mk (blk_key hbk)
          have r2 := loadK_eq (blk_key hbk)
          have r3 := keyOk_mk hkd
          have r4 := loadK_eq hkd
          have HOD := Lib.hid (HOQ.out.below hbd)
          have HDC := Lib.hid (HD.out.kept (below_grownBy (HBQ.out.trans (hbc.mono hzq)) none) (by simp))
          have HBD := Lib.hid (HBQ.out.trans (hbd.mono hzq))
          have hhk := HHAS.out kk
          obtain ⟨b, hb⟩ : ∃ b, hasK (entKeys l) kk = b := ⟨_, rfl⟩
          rw [hb] at hhk
          have HBB := Lib.hid hb
          clear hwc hbk hbc hbd hkd hb
          go_upto_region 12 with (first
            | (at_lookup
               refine wpList_lookup_own_unit _ rfl _ _ 52 rfl 41 53 key_keyed Try.underlying52 (unit_zero _) w.heap.size n D rfl HDC.out _ (klit kk) rfl (klit_of kk) ?_
               rw [hhk]))
          generalize hwd : World.alloc wc _ = wd at r3 r4 HOD HBD ⊢
          have hzd := HBD.out.size
          have hfl : ((ps.take j).filter (hasK (entKeys l))).length ≤ 977343669106 := by have := filter_take_le (f := hasK (entKeys l)) (l := ps) (n := j); omega
          clear hwd r1 r2 q1 q2 HDC hhk
          rcases b with _ | _
          · go_wp2_with fail
            go_roundw
            case rel =>
              refine ⟨j + 1, by omega, by go_num, HBD.out, ?_⟩
              rw [filter_snoc HKK.out, HBB.out, if_neg (by simp), List.append_nil]
              exact HOD.out
            case measure => simp [intOf]; omega
          · go_wp2_with (first
              | (refine wpList_buildSlice rfl 23 41 1 _ rfl (bytesOf 32 kk).toArray i0 _ Try.underlying23 HI0.out HZ0.out (by rw [hz1]; omega) (by rw [hz1]; omega) (by simp only [List.map_toArray, List.map_cons, List.map_nil]; exact key_fill kk i0 hz1) ?_)
              | (at_builtin
                 refine wpList_app_key rfl (.tmp 38) (.tmp 40) rfl wh.heap.size _ _ rfl HOD.out kk rfl hfl hzd ?_
                 intro v3 w3 ho3 hb3
                 have HO3 := Lib.hid ho3
                 have HB3 := Lib.hid (HBD.out.trans hb3)
                 clear ho3 hb3))
            go_roundw
            case rel =>
              refine ⟨j + 1, by omega, by go_num, HB3.out, ?_⟩
              rw [filter_snoc HKK.out, HBB.out, if_pos rfl]
              exact HO3.out
            case measure => simp [intOf]; omega
        · obtain rfl : j = m := by omega
          have hge' : ¬ (j : Int) < j := by omega
          have hoq := HOQ.out
          rw [List.take_of_length_le (by rw [HL.out]; omega)] at hoq
          have HOF := Lib.hid hoq
          clear hoq
          go_wp2_with fail
          go_ret
          exact ⟨_, rfl, HBR.out.trans (HBQ.out.mono hzr), HOF.out.less hzr⟩

set_option maxRecDepth 100000 in
set_option maxHeartbeats 4000000 in
attribute [local go_sem ↓] wp_load_k wp_load_ent wp_store_ent in
theorem rat_any (w : World) (A' : Option Addr) (m' c' : Nat) (l : List EItem) (h' : EntsAt w A' m' c' l) (k : Ky) :
    Calls Try.prog 23 #[.slice A' m' c', keyV k] w fun e w' => ∃ r : Int, e = .returned (.int .i64 r) ∧ Below w.heap.size w w' ∧ decide (0 ≤ r) = hasK (entKeys l) k := by
  have hmc : m' ≤ 9223372036854775807 := Nat.le_trans h'.2.1 h'.2.2.1
  have HE0 := Lib.hid h'
  obtain ⟨cx, hcx⟩ : ∃ cx, (bytesOf 32 k).toArray = cx := ⟨_, rfl⟩
  show Calls _ _ #[_, .agg (bytesOf 32 k).toArray] _ _
  rw [hcx]
  have HCX := Lib.hid hcx
  clear h' hcx
  go_enter Try.func23, Try.ntmps23
  go_wp2_with fail
  generalize hwa : World.alloc w _ = wa
  have hb0 : Below w.heap.size w wa := by rw [← hwa]; exact (Below.refl _ _).alloc (Nat.le_refl _) _
  have hk3 : Blk wa w.heap.size 41 (bytesOf 32 k).toArray := by rw [← hwa, HCX.out]; exact Blk.new w _ _
  have HB0 := Lib.hid hb0
  have HK3 := Lib.hid hk3
  have HE := Lib.hid (HE0.out.below hb0)
  have hz0 := hb0.size
  have hl0 := hk3.lt
  clear hwa hb0 hk3 HE0
  go_loopw [9] (fun i wr => ∃ n : Nat, n ≤ m' ∧ i = .int .i64 (n : Int) ∧ Below wa.heap.size wa wr ∧ hasK ((entKeys l).take n) k = false) (fun i _ => m' - (intOf i).toNat)
  case atStart => exact ⟨0, by omega, rfl, Below.refl _ _, rfl⟩
  case round =>
    obtain ⟨n, hn, rfl, hbr, hno⟩ := hrel
    have HBR := Lib.hid hbr
    have HNO := Lib.hid hno
    have hzr := hbr.size
    clear hbr hno
    rcases Nat.lt_or_ge n m' with hlt | hge
    · have hlt' : (n : Int) < m' := by omega
      have hn0 : (0 : Int) ≤ n := by omega
      obtain ⟨g, o, hA, hat⟩ := (HE.out.below HBR.out).at_
      obtain rfl := hA (by omega)
      obtain ⟨x, hx, hr, hrd⟩ := hat n hlt
      have hkk : (entKeys l)[n]? = some x.e.key := by unfold entKeys; rw [List.getElem?_map, hx]; rfl
      have HKK := Lib.hid hkk
      have q1 := aggOk_mk hr (entCells_len _ _ _)
      have q2 := loadN_eq hr (entCells_len _ _ _)
      have qs := box_sto wr x.e x.rv x.pv hrd.one
      obtain ⟨kk, hkx⟩ : ∃ kk, x.e.key = kk := ⟨_, rfl⟩
      rw [hkx] at HKK
      have hk3 := HK3.out.below HBR.out HK3.out.lt
      have HK3r := Lib.hid hk3
      clear hA hat hkk hr hk3
      go_upto_region 4 with (fail)
      generalize hwc : storeMid _ _ _ = wc
      have hbx := box_end hwc
      have hkc := blk_ent_key hbx.2
      rw [hkx] at hkc
      have hkd := blk_key (HK3r.out.below hbx.1 HK3r.out.lt)
      have hbcw := HBR.out.trans (hbx.1.mono hzr)
      have HBC := Lib.hid hbcw
      have hzc := hbcw.size
      have r1 := keyOk_mk hkc
      have r2 := loadK_eq hkc
      have r3 := keyOk_mk hkd
      have r4 := loadK_eq hkd
      have heq := fun W => run_keyEq W kk k
      obtain ⟨b, hb⟩ : ∃ b, keyEq kk k = b := ⟨_, rfl⟩
      rw [hb] at heq
      have HBQ := Lib.hid hb
      have hns : hasK ((entKeys l).take (n + 1)) k = b := by rw [take_snoc HKK.out, hasK_snoc, HNO.out, hb]; rfl
      have HNS := Lib.hid hns
      clear hwc hkc hkd hbx hbcw q1 q2 qs hb hns
      rcases b with _ | _
      · go_wp2_with fail
        go_roundw
        case rel => exact ⟨n + 1, by omega, by go_num, HBC.out, HNS.out⟩
        case measure => simp [intOf]; omega
      · go_wp2_with fail
        go_ret
        refine ⟨_, rfl, HB0.out.trans (HBC.out.mono hz0), ?_⟩
        rw [decide_eq_true (by omega)]
        have h1 := HNS.out
        unfold hasK at h1 ⊢
        obtain ⟨y, hy, hy2⟩ := List.any_eq_true.1 h1
        exact (List.any_eq_true.2 ⟨y, List.mem_of_mem_take hy, hy2⟩).symm
    · have hge' : ¬ (n : Int) < m' := by omega
      obtain rfl : n = m' := by omega
      have hno := HNO.out
      rw [List.take_of_length_le (by unfold entKeys; rw [List.length_map, HE.out.len]; omega)] at hno
      have HNF := Lib.hid hno
      clear hno
      go_wp2_with fail
      go_ret
      exact ⟨-1, rfl, HB0.out.trans (HBR.out.mono hz0), by rw [HNF.out]; rfl⟩
end Go.Proofs.Ytoamjdjmfhdaeaa
