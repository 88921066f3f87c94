/- Handles of the program's store and of the reference's. -/
import Derived.Test.YtnihkjhejjeepaaSlR2
namespace Go.Proofs.Ytnihkjhejjeepaa
open Go.RowKit
set_option linter.unusedVariables false
set_option linter.unusedSimpArgs false
open ShaW Sha

def hdlsP (l : List Plc) : List Hd := l.zipIdx.flatMap fun x => if x.1.full then [(x.2, x.1.uses - 1)] else []
def hdlsS (l : List SRow) : List Hd := l.zipIdx.flatMap fun x => if x.1.s.full then [(x.2, x.1.s.use)] else []
theorem hdlsP_take {l : List Plc} {k : Nat} {p : Plc} (h : l[k]? = some p) : hdlsP (l.take (k + 1)) = hdlsP (l.take k) ++ (if p.full then [(k, p.uses - 1)] else []) := by
  have hk := (List.getElem?_eq_some_iff.1 h).1
  unfold hdlsP
  rw [List.take_add_one, h, List.zipIdx_append, List.flatMap_append]
  congr 1
  simp [List.zipIdx_cons, List.length_take, Nat.min_eq_left (Nat.le_of_lt hk)]
theorem hdlsS_take {l : List SRow} {k : Nat} {p : SRow} (h : l[k]? = some p) : hdlsS (l.take (k + 1)) = hdlsS (l.take k) ++ (if p.s.full then [(k, p.s.use)] else []) := by
  have hk := (List.getElem?_eq_some_iff.1 h).1
  unfold hdlsS
  rw [List.take_add_one, h, List.zipIdx_append, List.flatMap_append]
  congr 1
  simp [List.zipIdx_cons, List.length_take, Nat.min_eq_left (Nat.le_of_lt hk)]
theorem hdlsS_rel {L : List SRow} {free : Int} {m : RSt} (h : RelS L free m) : ∀ k, k ≤ L.length → hdlsS (L.take k) = hdlsP (m.pl.take k)
  | 0, _ => by simp [hdlsS, hdlsP]
  | k + 1, hk => by
    have hl : L[k]? = some (L[k]'(by omega)) := List.getElem?_eq_getElem _
    obtain ⟨p, hp, h1, h2, _⟩ := h.place hl
    rw [hdlsS_take hl, hdlsP_take hp, hdlsS_rel h k (by omega), h1]
    congr 1
    cases hf : p.full with
    | false => rfl
    | true =>
      have := (h2 hf).2
      rw [if_pos rfl, if_pos rfl, show p.uses - 1 = (L[k]'(by omega)).s.use by omega]
theorem hdlsP_len (l : List Plc) : (hdlsP l).length = cntP l := by
  suffices ∀ k, k ≤ l.length → (hdlsP (l.take k)).length = cntP (l.take k) by
    have h := this l.length (Nat.le_refl _)
    rwa [List.take_length] at h
  intro k
  induction k with
  | zero => intro _; simp [hdlsP, cntP]
  | succ k ih =>
    intro hk
    have hl : l[k]? = some (l[k]'(by omega)) := List.getElem?_eq_getElem _
    rw [hdlsP_take hl, cntP_take hl, List.length_append, ih (by omega)]
    congr 1
    unfold one?
    split <;> rfl
theorem hdlsP_ok {m : RSt} {k : Nat} (hw : WfR m k) {x : Hd} (hx : x ∈ hdlsP m.pl) : ∃ p, m.pl[x.1]? = some p ∧ p.full = true ∧ p.uses = x.2 + 1 := by
  unfold hdlsP at hx
  obtain ⟨y, hy, hy2⟩ := List.mem_flatMap.1 hx
  cases hf : y.1.full with
  | false => rw [hf] at hy2; simp at hy2
  | true =>
    rw [hf] at hy2
    simp at hy2
    have hg := List.mk_mem_zipIdx_iff_getElem?.1 (show (y.1, y.2) ∈ m.pl.zipIdx from hy)
    have hpos := hw.pos y.1 (List.mem_of_getElem? hg) hf
    refine ⟨y.1, by rw [hy2]; exact hg, hf, ?_⟩
    rw [hy2]
    show y.1.uses = y.1.uses - 1 + 1
    omega
theorem hdlsP_bd (l : List Plc) : (hdlsP l).length ≤ l.length := by rw [hdlsP_len]; exact cntP_len l
theorem hdlsS_bd (l : List SRow) : (hdlsS l).length ≤ l.length := by
  suffices ∀ k, k ≤ l.length → (hdlsS (l.take k)).length ≤ k by
    have h := this l.length (Nat.le_refl _)
    rwa [List.take_length] at h
  intro k
  induction k with
  | zero => intro _; simp [hdlsS]
  | succ k ih =>
    intro hk
    have hl : l[k]? = some (l[k]'(by omega)) := List.getElem?_eq_getElem _
    rw [hdlsS_take hl, List.length_append]
    have := ih (by omega)
    split <;> simp <;> omega
theorem sbox_sto (W : World) (r : SRow) (h1 : ∀ u ∈ r.cells, u.oneCell' = true) : StoOk 44 (W.alloc (.cells #[Value.int .u8 0, Value.int .u8 0, Value.int .u8 0, Value.int .u8 0, Value.int .u8 0, Value.int .u8 0, Value.int .u8 0, Value.int .u8 0, Value.int .u8 0, Value.int .u8 0, Value.int .u8 0, Value.int .u8 0, Value.int .u8 0, Value.int .u8 0, Value.int .u8 0, Value.int .u8 0, Value.int .u8 0, Value.int .u8 0, Value.int .u8 0, Value.int .u8 0, Value.int .u8 0, Value.int .u8 0, Value.int .u8 0, Value.int .u8 0, Value.int .u8 0, Value.int .u8 0, Value.int .u8 0, Value.int .u8 0, Value.int .u8 0, Value.int .u8 0, Value.int .u8 0, Value.int .u8 0, .slice none 0 0, .string { data := #[] }, .int .u64 0, .int .u64 0, .int .u64 0, .int .i64 0, .int .i64 0, .int .i64 0, .slice none 0 0, .int .i64 0, .bool false, .int .i64 0] 75)) (.pointer (some ⟨W.heap.size, 0, none⟩)) (.agg r.cells.toArray) :=
  ⟨_, 0, _, rfl, rfl, r.len, blk_there (heap_alloc_new _ _) (Nat.le_refl 44), h1⟩
theorem sbox_end {W W' : World} {r : SRow} (h : storeMid (W.alloc (.cells #[Value.int .u8 0, Value.int .u8 0, Value.int .u8 0, Value.int .u8 0, Value.int .u8 0, Value.int .u8 0, Value.int .u8 0, Value.int .u8 0, Value.int .u8 0, Value.int .u8 0, Value.int .u8 0, Value.int .u8 0, Value.int .u8 0, Value.int .u8 0, Value.int .u8 0, Value.int .u8 0, Value.int .u8 0, Value.int .u8 0, Value.int .u8 0, Value.int .u8 0, Value.int .u8 0, Value.int .u8 0, Value.int .u8 0, Value.int .u8 0, Value.int .u8 0, Value.int .u8 0, Value.int .u8 0, Value.int .u8 0, Value.int .u8 0, Value.int .u8 0, Value.int .u8 0, Value.int .u8 0, .slice none 0 0, .string { data := #[] }, .int .u64 0, .int .u64 0, .int .u64 0, .int .i64 0, .int .i64 0, .int .i64 0, .slice none 0 0, .int .i64 0, .bool false, .int .i64 0] 75)) (.pointer (some ⟨W.heap.size, 0, none⟩)) (.agg r.cells.toArray) = W') :
    Below W.heap.size W W' ∧ Blk W' W.heap.size 75 r.cells.toArray := by
  rw [storeMid_eq] at h
  rw [← h]
  exact ⟨Only.below_trans ((Below.refl _ _).alloc (Nat.le_refl _) _) (setCells_only (fun k => k = W.heap.size) _ W.heap.size 0 _ (.inl rfl)) (by simp) (fun k hk => Nat.le_of_eq hk.symm), setCells_whole (heap_alloc_new _ _) (by rw [r.len]; rfl)⟩
set_option maxRecDepth 100000 in
set_option maxHeartbeats 4000000 in
attribute [local go_sem ↓] wp_load_place wp_store_place in
theorem rhandles_any (w : World) (B : Nat) (pv fv : Value) (m : RSt) (L : List PRow) (k : Nat) (h : RefS w B pv fv m L) (hw : WfR m k) (hk : k ≤ 2000) :
    Calls Try.prog 24 #[storeV m pv fv] w fun e w' => ∃ A c, e = .returned (.slice A (cntP m.pl) c) ∧ Below w.heap.size w w' ∧ w'.ownsRow w.heap.size 43 2 (.slice A (cntP m.pl) c) (hdlsP m.pl).length (hdlsV (hdlsP m.pl)) := by
  obtain ⟨i0, hi0, hz0', hz1, hz2⟩ := info_parts hdl_info
  have HI0 := Lib.hid hi0
  have HZ0 := Lib.hid hz0'
  clear hi0 hz0'
  obtain ⟨A, c, rfl⟩ := own_form h.row
  obtain ⟨Af, cf, rfl⟩ := own_form h.fre
  obtain ⟨n, hn⟩ : ∃ n, L.length = n := ⟨_, rfl⟩
  have hml := h.len
  have hwl := hw.len
  rw [hn] at hml ⊢
  obtain ⟨most, hmo⟩ : ∃ x, m.most = x := ⟨_, rfl⟩
  obtain ⟨fl, hfl⟩ : ∃ x, m.fr.length = x := ⟨_, rfl⟩
  show Calls _ _ #[.agg #[.int .i64 (m.most : Int), _, _]] _ _
  rw [hmo, hfl]
  have HS := Lib.hid h
  have HW := Lib.hid hw
  have HN := Lib.hid hn
  have HML := Lib.hid hml
  have hn2 : n ≤ 2000 := by omega
  clear h hw hn hmo hfl hwl
  have hpl : m.pl.length ≤ 2000 := by omega
  clear hml
  go_enter Try.func24, Try.ntmps24
  go_upto_region 1 with (fail)
  generalize hwa : World.alloc w _ = wa
  have hb0 : Below w.heap.size w wa := by rw [← hwa]; exact (Below.refl _ _).alloc (Nat.le_refl _) _
  have hkb : Blk wa w.heap.size 28 #[.int .i64 (most : Int), .slice A n c, .slice Af fl cf] := by rw [← hwa]; exact heap_alloc_new _ _
  have x1 : wa.cell? ⟨w.heap.size, 1, none⟩ = some (.slice A n c) := hkb.cell 1
  have HB0 := Lib.hid hb0
  have hz0 := hb0.size
  clear hwa hb0 hkb
  go_wp2_with fail
  go_loopw [3, 9] (fun s i wr => ∃ j : Nat, j ≤ n ∧ i = .int .i64 (j : Int) ∧ wr.ownsRow w.heap.size 43 2 s (hdlsP (m.pl.take j)).length (hdlsV (hdlsP (m.pl.take j))) ∧ Below w.heap.size w wr) (fun _ i _ => n - (intOf i).toNat)
  case atStart => exact ⟨0, by omega, rfl, by rw [List.take_zero]; exact World.ownsRow_nil _ _ _ _, HB0.out⟩
  case round =>
    obtain ⟨j, hj, rfl, hor, hbr⟩ := hrel
    have HBR := Lib.hid hbr
    obtain ⟨ll, hll⟩ : ∃ x, (hdlsP (m.pl.take j)).length = x := ⟨_, rfl⟩
    rw [hll] at hor
    obtain ⟨Al, cl, rfl⟩ := own_form hor
    have hll2 : ll ≤ 2000 := by rw [← hll]; exact Nat.le_trans (hdlsP_bd _) (Nat.le_trans (List.length_take_le _ _) (by omega))
    have HOR := Lib.hid hor
    have HLL := Lib.hid hll
    clear hbr x1 hor hll
    rcases Nat.lt_or_ge j n with hlt | hge
    · have t1 : (j : Int) < n := by omega
      obtain ⟨r, hr⟩ : ∃ r, L[j]? = some r := ⟨L[j]'(by have := HN.out; omega), List.getElem?_eq_getElem _⟩
      have hp : m.pl[j]? = some r.p := by rw [← HS.out.eq, List.getElem?_map, hr]; rfl
      have hS := HS.out.below HBR.out
      obtain ⟨g, c', hv, _, _, _, hrg, _⟩ := hS.at_ hr
      injection hv with h1 _ _
      subst h1
      have hen := hS.ent r (List.mem_of_getElem? hr)
      have HLE := Lib.hid (hdlsP_take hp)
      have hus := HW.out.uses r.p (List.mem_of_getElem? hp)
      have HPOS := Lib.hid (HW.out.pos r.p (List.mem_of_getElem? hp))
      obtain ⟨us, hus'⟩ : ∃ x, r.p.uses = x := ⟨_, rfl⟩
      have HF : Hid (r.cells[0]? = some (.bool r.p.full)) := rfl
      have HU : Hid (r.cells[1]? = some (.int .i64 (us : Int))) := by rw [← hus']; exact rfl
      rw [hus'] at hus HLE HPOS
      have qa : AggOk 43 wr (.pointer (some ⟨g, j * 43, none⟩)) := aggOk_mk hrg r.len
      have ld := loadN_eq hrg r.len
      have qs := pbox_sto wr r (PRow.one (own_oneCell hen.raw) (own_oneCell hen.peers))
      have g2 : IntKind.i64.wrap ((j : Int) + 1) = (j : Int) + 1 := IntWalk.i64_in _ (by omega)
      clear hrg hen hr hp hS hus'
      go_upto_region 5 with (fail)
      generalize hwb : storeMid _ _ _ = w3
      obtain ⟨hb3, hk3⟩ := pbox_end hwb
      have y0 : w3.cell? ⟨wr.heap.size, 0, none⟩ = some (.bool r.p.full) := by rw [hk3.cell]; exact List.getElem?_toArray.trans HF.out
      have y1 : w3.cell? ⟨wr.heap.size, 1, none⟩ = some (.int .i64 (us : Int)) := by rw [hk3.cell]; exact List.getElem?_toArray.trans HU.out
      have HB3 := Lib.hid (HBR.out.trans (hb3.mono HBR.out.size))
      have HO3 := Lib.hid (owns_below HOR.out hb3)
      have hbw3 : w.heap.size ≤ w3.heap.size := HB3.out.size
      clear hwb hb3 hk3 qa ld qs
      cases hf : r.p.full with
      | true =>
        rw [hf] at y0
        have hle2 := HLE.out
        rw [hf, if_pos rfl] at hle2
        have HLE2 := Lib.hid hle2
        have hus1 := HPOS.out hf
        obtain ⟨u1, hu1⟩ : ∃ x, us - 1 = x := ⟨_, rfl⟩
        rw [hu1] at HLE2
        have g1 : IntKind.i64.wrap ((us : Int) - 1) = (u1 : Int) := by rw [IntWalk.i64_in _ (by omega)]; omega
        have HRW : Hid ((w3.alloc (.cells #[.int .i64 (j : Int), .int .i64 (u1 : Int)] 43)).ownsRow w.heap.size 43 2 (.slice Al ll cl) ll (hdlsV (hdlsP (m.pl.take j)))) := Lib.hid (owns_below HO3.out ((Below.refl _ _).alloc (Nat.le_refl _) _))
        have HRX := Lib.hid (hdl_reads w3 (j, u1))
        clear hf hle2
        go_wp2_with (first
          | (refine wpList_buildSlice rfl 50 43 1 _ rfl #[.int .i64 (j : Int), .int .i64 (u1 : Int)] i0 _ Try.underlying50 HI0.out HZ0.out (by rw [hz1]; omega) (by rw [hz1]; omega) (by simp only [List.map_toArray, List.map_cons, List.map_nil]; exact hdl_fill _ _ i0 hz1) ?_)
          | (at_builtin
             refine wpList_append_any _ rfl (.tmp 16) (.tmp 22) _ rfl w.heap.size 43 i0 _ 2 16 Try.underlying50 HI0.out HZ0.out hz1 hz2 rfl (by omega) (.slice Al ll cl) ll _ (by rfl)
               HRW.out _ _ 1 1 _ (by rfl) HRX.out (hdlsV_oneCell _) (by unfold maxLen; omega) (by omega) (by rw [World.size_alloc]; omega) ?_
             intro v8 w8 hr8 hg8 hat8
             rw [← hdlsV_append] at hr8
             have hb8 : Below w3.heap.size w3 (w3.alloc (.cells #[.int .i64 (j : Int), .int .i64 (u1 : Int)] 43)) := (Below.refl _ _).alloc (Nat.le_refl _) _
             have hq8 := (HB3.out.trans (hb8.mono hbw3)).grown hg8 (by rw [World.size_alloc]; omega) (fun g e => (HRW.out.lt g e).1)
             have HB8 := Lib.hid hq8
             have HO8 := Lib.hid hr8
             clear hr8 hg8 hat8 hb8 hq8))
        go_roundw
        case rel =>
          refine ⟨_, _, _, _, ⟨j + 1, by omega, ?_, ?_, HB8.out⟩, rfl, rfl, rfl, rfl⟩
          · go_num
          · rw [HLE2.out, List.length_append, HLL.out]; exact HO8.out
        case measure => simp [intOf]; omega
      | false =>
        rw [hf] at y0
        have hle2 := HLE.out
        rw [hf, if_neg (by decide), List.append_nil] at hle2
        have HLE2 := Lib.hid hle2
        clear hf hle2 y1
        go_wp2_with fail
        go_roundw
        case rel => exact ⟨j + 1, by omega, by go_num, by rw [HLE2.out, HLL.out]; exact HO3.out, HB3.out⟩
        case measure => simp [intOf]; omega
    · obtain rfl : j = n := by omega
      have t1 : ¬ (j : Int) < j := by omega
      go_wp2_with fail
      go_ret
      rw [List.take_of_length_le (by have := HML.out; omega)] at HOR HLL
      rw [hdlsP_len] at HLL
      have e : cntP m.pl = ll := HLL.out
      refine ⟨Al, cl, ?_, HBR.out, ?_⟩
      · rw [e]; rfl
      · rw [hdlsP_len, e]; exact HOR.out
set_option maxRecDepth 100000 in
set_option maxHeartbeats 4000000 in
attribute [local go_sem ↓] wp_load_slot wp_store_slot in
theorem shandles_any (w : World) (B C : Nat) (m : RSt) (k : Nat) (h : SlR w B C m) (hw : WfR m k) (hk : k ≤ 2000) :
    Calls Try.prog 23 #[.pointer (some ⟨C, 0, none⟩)] w fun e w' => ∃ A c, e = .returned (.slice A (cntP m.pl) c) ∧ Below w.heap.size w w' ∧ w'.ownsRow w.heap.size 43 2 (.slice A (cntP m.pl) c) (hdlsP m.pl).length (hdlsV (hdlsP m.pl)) := by
  obtain ⟨i0, hi0, hz0', hz1, hz2⟩ := info_parts hdl_info
  have HI0 := Lib.hid hi0
  have HZ0 := Lib.hid hz0'
  clear hi0 hz0'
  obtain ⟨sv, L, size, free, h1, h2, rfl⟩ := h
  obtain ⟨A, c, rfl⟩ := own_form h1.row
  obtain ⟨n, hn⟩ : ∃ n, L.length = n := ⟨_, rfl⟩
  have hml := h2.len
  have hwl := hw.len
  have x1 : w.cell? ⟨C, 2, none⟩ = some (.slice A n c) := by rw [← hn]; exact h1.blk.cell 2
  have HS := Lib.hid h1
  have HR := Lib.hid h2
  have HW := Lib.hid hw
  have HN := Lib.hid hn
  have HML := Lib.hid hml
  have hn2 : n ≤ 2000 := by omega
  clear h1 h2 hw hn hml hwl
  have HB0 := Lib.hid (Below.refl w.heap.size w)
  go_enter Try.func23, Try.ntmps23
  go_wp2_with fail
  go_loopw [3, 13] (fun s i wr => ∃ j : Nat, j ≤ n ∧ i = .int .i64 (j : Int) ∧ wr.ownsRow w.heap.size 43 2 s (hdlsS (L.take j)).length (hdlsV (hdlsS (L.take j))) ∧ Below w.heap.size w wr) (fun _ i _ => n - (intOf i).toNat)
  case atStart => exact ⟨0, by omega, rfl, by rw [List.take_zero]; exact World.ownsRow_nil _ _ _ _, HB0.out⟩
  case round =>
    obtain ⟨j, hj, rfl, hor, hbr⟩ := hrel
    have HBR := Lib.hid hbr
    obtain ⟨ll, hll⟩ : ∃ x, (hdlsS (L.take j)).length = x := ⟨_, rfl⟩
    rw [hll] at hor
    obtain ⟨Al, cl, rfl⟩ := own_form hor
    have hll2 : ll ≤ 2000 := by rw [← hll]; exact Nat.le_trans (hdlsS_bd _) (Nat.le_trans (List.length_take_le _ _) (by omega))
    have HOR := Lib.hid hor
    have HLL := Lib.hid hll
    clear hbr x1 hor hll
    rcases Nat.lt_or_ge j n with hlt | hge
    · have t1 : (j : Int) < n := by omega
      obtain ⟨r, hr⟩ : ∃ r, L[j]? = some r := ⟨L[j]'(by have := HN.out; omega), List.getElem?_eq_getElem _⟩
      have hS := HS.out.below HBR.out
      obtain ⟨g, c', hv, _, _, _, hrg, _⟩ := hS.at_ hr
      injection hv with h1 _ _
      subst h1
      have hen := hS.ent r (List.mem_of_getElem? hr)
      have HLE := Lib.hid (hdlsS_take hr)
      obtain ⟨us, hus'⟩ : ∃ x, r.s.use = x := ⟨_, rfl⟩
      have HF : Hid (r.cells[42]? = some (.bool r.s.full)) := cells_full r
      have HU : Hid (r.cells[41]? = some (.int .i64 (us : Int))) := by rw [← hus']; exact cells_use r
      rw [hus'] at HLE
      have qa : AggOk 44 wr (.pointer (some ⟨g, j * 44, none⟩)) := aggOk_mk hrg r.len
      have ld := loadN_eq hrg r.len
      have qs := sbox_sto wr r (SRow.one hen)
      have g2 : IntKind.i64.wrap ((j : Int) + 1) = (j : Int) + 1 := IntWalk.i64_in _ (by omega)
      clear hrg hen hr hS hus'
      go_upto_region 7 with (fail)
      generalize hwb : storeMid _ _ _ = w3
      obtain ⟨hb3, hk3⟩ := sbox_end hwb
      have y0 : w3.cell? ⟨wr.heap.size, 42, none⟩ = some (.bool r.s.full) := by rw [hk3.cell]; exact List.getElem?_toArray.trans HF.out
      have y1 : w3.cell? ⟨wr.heap.size, 41, none⟩ = some (.int .i64 (us : Int)) := by rw [hk3.cell]; exact List.getElem?_toArray.trans HU.out
      have HB3 := Lib.hid (HBR.out.trans (hb3.mono HBR.out.size))
      have HO3 := Lib.hid (owns_below HOR.out hb3)
      have hbw3 : w.heap.size ≤ w3.heap.size := HB3.out.size
      clear hwb hb3 hk3 qa ld qs
      cases hf : r.s.full with
      | true =>
        rw [hf] at y0
        have hle2 := HLE.out
        rw [hf, if_pos rfl] at hle2
        have HLE2 := Lib.hid hle2
        have HRW : Hid ((w3.alloc (.cells #[.int .i64 (j : Int), .int .i64 (us : Int)] 43)).ownsRow w.heap.size 43 2 (.slice Al ll cl) ll (hdlsV (hdlsS (L.take j)))) := Lib.hid (owns_below HO3.out ((Below.refl _ _).alloc (Nat.le_refl _) _))
        have HRX := Lib.hid (hdl_reads w3 (j, us))
        clear hf hle2
        go_wp2_with (first
          | (refine wpList_buildSlice rfl 50 43 1 _ rfl #[.int .i64 (j : Int), .int .i64 (us : Int)] i0 _ Try.underlying50 HI0.out HZ0.out (by rw [hz1]; omega) (by rw [hz1]; omega) (by simp only [List.map_toArray, List.map_cons, List.map_nil]; exact hdl_fill _ _ i0 hz1) ?_)
          | (at_builtin
             refine wpList_append_any _ rfl (.tmp 20) (.tmp 25) _ rfl w.heap.size 43 i0 _ 2 16 Try.underlying50 HI0.out HZ0.out hz1 hz2 rfl (by omega) (.slice Al ll cl) ll _ (by rfl)
               HRW.out _ _ 1 1 _ (by rfl) HRX.out (hdlsV_oneCell _) (by unfold maxLen; omega) (by omega) (by rw [World.size_alloc]; omega) ?_
             intro v8 w8 hr8 hg8 hat8
             rw [← hdlsV_append] at hr8
             have hb8 : Below w3.heap.size w3 (w3.alloc (.cells #[.int .i64 (j : Int), .int .i64 (us : Int)] 43)) := (Below.refl _ _).alloc (Nat.le_refl _) _
             have hq8 := (HB3.out.trans (hb8.mono hbw3)).grown hg8 (by rw [World.size_alloc]; omega) (fun g e => (HRW.out.lt g e).1)
             have HB8 := Lib.hid hq8
             have HO8 := Lib.hid hr8
             clear hr8 hg8 hat8 hb8 hq8))
        go_roundw
        case rel =>
          refine ⟨_, _, _, _, ⟨j + 1, by omega, ?_, ?_, HB8.out⟩, rfl, rfl, rfl, rfl⟩
          · go_num
          · rw [HLE2.out, List.length_append, HLL.out]; exact HO8.out
        case measure => simp [intOf]; omega
      | false =>
        rw [hf] at y0
        have hle2 := HLE.out
        rw [hf, if_neg (by decide), List.append_nil] at hle2
        have HLE2 := Lib.hid hle2
        clear hf hle2 y1
        go_wp2_with fail
        go_roundw
        case rel => exact ⟨j + 1, by omega, by go_num, by rw [HLE2.out, HLL.out]; exact HO3.out, HB3.out⟩
        case measure => simp [intOf]; omega
    · obtain rfl : j = n := by omega
      have t1 : ¬ (j : Int) < j := by omega
      go_wp2_with fail
      go_ret
      have hrl := hdlsS_rel HR.out j (by have := HN.out; omega)
      rw [hrl, List.take_of_length_le (by have := HML.out; have := HN.out; omega)] at HOR HLL
      rw [hdlsP_len] at HLL
      have e : cntP m.pl = ll := HLL.out
      refine ⟨Al, cl, ?_, HBR.out, ?_⟩
      · rw [e]; rfl
      · rw [hdlsP_len, e]; exact HOR.out
end Go.Proofs.Ytnihkjhejjeepaa
