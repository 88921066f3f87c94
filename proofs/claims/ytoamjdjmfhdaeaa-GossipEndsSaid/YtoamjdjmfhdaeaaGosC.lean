/- gossip.left. -/
import Derived.Test.YtoamjdjmfhdaeaaGosB
namespace Go.Proofs.Ytoamjdjmfhdaeaa
open Go.RowKit
set_option linter.unusedVariables false
set_option linter.unusedSimpArgs false
open ShaW Sha

def EntsOut (w w' : World) (v : Value) (l : List EItem) : Prop := Below w.heap.size w w' ∧ OwnE w' w.heap.size v l
def LeAt (w wr : World) (v : Value) (l : List EItem) : Prop := Below w.heap.size w wr ∧ OwnE wr w.heap.size v l
theorem OwnE.less {w : World} {base base' : Nat} {v : Value} {l : List EItem} (h : OwnE w base v l) (hb : base' ≤ base) : OwnE w base' v l := owns_base2 h hb
theorem blk_ent_cell {w : World} {g : Nat} {e : Ent} {rv pv : Value} (h : Blk w g 47 (entCells e rv pv).toArray) (j : Nat) : w.cell? ⟨g, 32 + j, none⟩ = (entTail e rv pv)[j]? := by
  rw [h.cell]; exact List.getElem?_toArray.trans (entCells_get e _ _ j)
theorem ent_fill2 {w : World} {e : Ent} {rv pv : Value} (h : EntSee w e rv pv) (ie : TypeInfo) (hs : ie.size = 41) : Instr.fill (fun i => some (i * ie.size, ie.size)) ((Array.range (1 * ie.size)).map ((Value.agg (entCells ⟨fun _ => 0, 0, fun _ => 0, ByteArray.empty, 0, 0, 0, 0, 0, 0, []⟩ (.slice none 0 0) (.slice none 0 0)).toArray).cells[· % (Value.agg (entCells ⟨fun _ => 0, 0, fun _ => 0, ByteArray.empty, 0, 0, 0, 0, 0, 0, []⟩ (.slice none 0 0) (.slice none 0 0)).toArray).cells.size]!)) [(0, .agg (entCells e rv pv).toArray)] = some (entCells e rv pv).toArray := by
  obtain ⟨A, c, rfl, _⟩ := h.raw
  obtain ⟨A', c', rfl, _⟩ := h.peers
  exact ent_fill e A _ c A' _ c' ie hs
set_option maxRecDepth 100000 in
set_option maxHeartbeats 4000000 in
attribute [local go_sem ↓] wp_load_k wp_load_ent wp_store_ent in
theorem gleft0_any (w : World) (A : Option Addr) (m c : Nat) (ps : List Ky) (h : KeysAt w A m c ps) (hm47 : m ≤ 977343669106) (A' : Option Addr) (m' c' : Nat) (l : List EItem) (h' : EntsAt w A' m' c' l) (hm' : m' ≤ 977343669106) (hpn : ∀ x ∈ l, x.e.peers.length ≤ 17592186043904) (p : Int) :
    Calls Try.prog 24 #[.slice A' m' c', .int .i64 p, .slice A m c] w fun e w' => ∃ v, e = .returned v ∧ EntsOut w w' v (leftE p ps l) := by
  obtain ⟨i0, hi0, hz0, hz1, hz2⟩ := info_parts ent_info
  have HI0 := Lib.hid hi0
  have HZ0 := Lib.hid hz0
  have HK := Lib.hid h
  have HE0 := Lib.hid h'
  have HL := Lib.hid h'.1
  have HPN := Lib.hid hpn
  clear hi0 hz0 hpn h'
  go_enter Try.func24, Try.ntmps24
  go_wp2_with fail
  refine (gset_any w A m c ps h hm47).mono ?_
  rintro e wh ⟨rfl, hbh, hsh⟩
  have hss := set_all hsh h.1
  clear h
  obtain ⟨D, hD, hhas⟩ := hss
  have HD := Lib.hid hD
  have HHAS := Lib.hid hhas
  have hDlt := hD.lt
  have HBH := Lib.hid hbh
  have hzh := hbh.size
  have HE := Lib.hid (HE0.out.below hbh)
  clear hD hhas hsh hbh HE0
  go_wp2_with fail
  go_loopw [8, 17] (fun v i wq => ∃ j : Nat, j ≤ m' ∧ i = .int .i64 (j : Int) ∧ LeAt wh wq v ((l.take j).filter (lackE p ps))) (fun _ i _ => m' - (intOf i).toNat)
  case atStart => exact ⟨0, by omega, rfl, Below.refl _ _, OwnE.nil _ _⟩
  case round =>
    obtain ⟨j, hj, rfl, hbq, hoq⟩ := hrel
    have HBQ := Lib.hid hbq
    have HOQ := Lib.hid hoq
    have hzq := hbq.size
    clear hbq hoq
    rcases Nat.lt_or_ge j m' with hlt | hge
    · have hlt' : (j : Int) < m' := by omega
      have hj0 : (0 : Int) ≤ j := by omega
      obtain ⟨g, o, hA, hat⟩ := (HE.out.below HBQ.out).at_
      obtain rfl := hA (by omega)
      obtain ⟨x, hx, hr, hrd⟩ := hat j hlt
      have q1 := aggOk_mk hr (entCells_len _ _ _)
      have q2 := loadN_eq hr (entCells_len _ _ _)
      have qs := box_sto wr x.e x.rv x.pv hrd.one
      have HX := Lib.hid hx
      have hpx := HPN.out x (List.mem_of_getElem? hx)
      have hlk : lackE p ps x = (!hasK ps x.e.key && !hasI x.e.peers p) := rfl
      have HRD := Lib.hid hrd
      clear hA hat hr hrd hx
      go_upto_region 6 with (fail)
      generalize hwc : storeMid _ _ _ = wc
      have hbx := box_end hwc
      have hbc : Below wr.heap.size wr wc := hbx.1
      have hbk : Blk wc wr.heap.size 47 (entCells x.e x.rv x.pv).toArray := hbx.2
      have hbd : Below wc.heap.size wc (wc.alloc (.cells #[] 53)) := (Below.refl _ _).alloc (Nat.le_refl _) _
      have hkb := hbk.alloc (.cells #[] 53)
      obtain ⟨kk, hkx⟩ : ∃ kk, x.e.key = kk := ⟨_, rfl⟩
      have hkc := blk_ent_key hbk
      rw [hkx] at hkc hlk
      have r1 := keyOk_mk hkc
      have r2 := loadK_eq hkc
      have HDC := Lib.hid (HD.out.kept (below_grownBy (HBQ.out.trans (hbc.mono hzq)) none) (by simp))
      have HBD := Lib.hid ((HBQ.out.trans (hbc.mono hzq)).trans (hbd.mono (Nat.le_trans hzq hbc.size)))
      have HOD := Lib.hid ((HOQ.out.below hbc).below hbd)
      have HRDD := Lib.hid ((HRD.out.below hbc).below hbd)
      have hhk := HHAS.out kk
      obtain ⟨b, hb⟩ : ∃ b, hasK ps kk = b := ⟨_, rfl⟩
      rw [hb] at hhk hlk
      have HKB := Lib.hid hkb
      clear hwc hbx hbc hbk hbd hkb hkc hb q1 q2 qs HRD
      go_upto_region 7 with (first
        | (at_lookup
           refine wpList_lookup_own_unit _ rfl _ _ 52 rfl 41 53 key_keyed Try.underlying52 (unit_zero _) w.heap.size m D rfl HDC.out _ (klit kk) rfl (klit_of kk) ?_
           rw [hhk]))
      generalize hwd : World.alloc wc _ = wd at HOD HBD HRDD HKB ⊢
      have hzd := HBD.out.size
      have hfl : ((l.take j).filter (lackE p ps)).length ≤ 977343669106 := by have := filter_take_le (f := lackE p ps) (l := l) (n := j); omega
      clear hwd r1 r2 HDC hhk
      rcases b with _ | _
      · obtain ⟨Ap, cp, hpv, hrp, _⟩ := HRDD.out.peers
        have c40 : wd.cell? ⟨wr.heap.size, 40, none⟩ = some (.slice Ap x.e.peers.length cp) := by rw [← hpv]; exact blk_ent_cell HKB.out 8
        have HRP := Lib.hid hrp
        clear hpv hrp
        go_wp2_with fail
        refine (icontains_any wd Ap x.e.peers.length cp x.e.peers HRP.out (by omega) p).mono ?_
        rintro e w1 ⟨rfl, rfl⟩
        obtain ⟨b2, hb2⟩ : ∃ b2, hasI x.e.peers p = b2 := ⟨_, rfl⟩
        rw [hb2] at hlk ⊢
        have HLK := Lib.hid hlk
        clear hlk hb2 c40
        rcases b2 with _ | _
        · have s1 := aggOk_mk (blk_ent_range HKB.out) (entCells_len _ _ _)
          have s2 := loadN_eq (blk_ent_range HKB.out) (entCells_len _ _ _)
          go_wp2_with (first
            | (refine wpList_buildSlice rfl 22 47 1 _ rfl (entCells x.e x.rv x.pv).toArray i0 _ Try.underlying22 HI0.out HZ0.out (by rw [hz1]; omega) (by rw [hz1]; omega) (by simp only [List.map_toArray, List.map_cons, List.map_nil]; exact ent_fill2 HRDD.out i0 hz1) ?_)
            | (at_builtin
               refine wpList_app_ent rfl (.tmp 37) (.tmp 39) rfl wh.heap.size _ _ rfl HOD.out x HRDD.out.one rfl hfl hzd ?_
               intro v3 w3 ho3 hb3 hg3
               have HO3 := Lib.hid ho3
               have HB3 := Lib.hid (HBD.out.trans hb3)
               clear ho3 hb3 hg3))
          go_roundw
          case rel =>
            refine ⟨j + 1, by omega, by go_num, HB3.out, ?_⟩
            rw [filter_snoc HX.out, HLK.out, if_pos (show (!false && !false) = true from rfl)]
            exact HO3.out
          case measure => simp [intOf]; omega
        · go_wp2_with fail
          go_roundw
          case rel =>
            refine ⟨j + 1, by omega, by go_num, HBD.out, ?_⟩
            rw [filter_snoc HX.out, HLK.out, if_neg (by simp), List.append_nil]
            exact HOD.out
          case measure => simp [intOf]; omega
      · have HLK := Lib.hid hlk
        clear hlk
        go_wp2_with fail
        go_roundw
        case rel =>
          refine ⟨j + 1, by omega, by go_num, HBD.out, ?_⟩
          rw [filter_snoc HX.out, HLK.out, Bool.not_true, Bool.false_and, if_neg (by simp), List.append_nil]
          exact HOD.out
        case measure => simp [intOf]; omega
    · obtain rfl : j = m' := by omega
      have hge' : ¬ (j : Int) < j := by omega
      have hoq := HOQ.out
      rw [List.take_of_length_le (by rw [HL.out]; omega)] at hoq
      have HOF := Lib.hid hoq
      clear hoq
      go_wp2_with fail
      go_ret
      exact ⟨_, rfl, HBH.out.trans (HBQ.out.mono hzh), HOF.out.less hzh⟩
end Go.Proofs.Ytoamjdjmfhdaeaa
