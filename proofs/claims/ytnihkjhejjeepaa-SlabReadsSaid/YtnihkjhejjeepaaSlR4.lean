/- The reference's store of entries: RemoveEntry. -/
import Derived.Test.YtnihkjhejjeepaaSlR3
namespace Go.Proofs.Ytnihkjhejjeepaa
open Go.RowKit
set_option linter.unusedVariables false
set_option linter.unusedSimpArgs false
open ShaW Sha

def prowU (u : Nat) : PRow := ⟨⟨false, u, ent0⟩, .slice none 0 0, .slice none 0 0⟩
theorem prowU_eq (u : Nat) : (#[.bool false, .int .i64 (u : Int), Value.int .u8 0, Value.int .u8 0, Value.int .u8 0, Value.int .u8 0, Value.int .u8 0, Value.int .u8 0, Value.int .u8 0, Value.int .u8 0, Value.int .u8 0, Value.int .u8 0, Value.int .u8 0, Value.int .u8 0, Value.int .u8 0, Value.int .u8 0, Value.int .u8 0, Value.int .u8 0, Value.int .u8 0, Value.int .u8 0, Value.int .u8 0, Value.int .u8 0, Value.int .u8 0, Value.int .u8 0, Value.int .u8 0, Value.int .u8 0, Value.int .u8 0, Value.int .u8 0, Value.int .u8 0, Value.int .u8 0, Value.int .u8 0, Value.int .u8 0, Value.int .u8 0, Value.int .u8 0, .slice none 0 0, .string { data := #[] }, .int .u64 0, .int .u64 0, .int .u64 0, .int .i64 0, .int .i64 0, .int .i64 0, .slice none 0 0] : Array Value) = (prowU u).cells.toArray := by kernel_rfl
/-- the variables of RemoveEntry -/
structure RemB (W : World) (b : Nat) (most : Nat) (pv fv : Value) (s u : Int) : Prop where
  st : Blk W b 28 #[.int .i64 (most : Int), pv, fv]
  hd : Blk W (b + 1) 43 #[.int .i64 s, .int .i64 u]
  rs : Blk W (b + 1 + 1) 28 #[.int .i64 0, .slice none 0 0, .slice none 0 0]
theorem RemB.below {W W' : World} {b most : Nat} {pv fv : Value} {s u : Int} (h : RemB W b most pv fv s u) (hb : Below W.heap.size W W') : RemB W' b most pv fv s u :=
  ⟨h.st.below hb h.st.lt, h.hd.below hb h.hd.lt, h.rs.below hb h.rs.lt⟩
theorem RemB.row {W W' : World} {b most : Nat} {pv fv : Value} {s u : Int} (h : RemB W b most pv fv s u) {g : Nat} {cs : Array Value} (hg : Blk W g 80 cs) (ho : Only (fun k => k = g) W W') : RemB W' b most pv fv s u :=
  ⟨h.st.only ho (Blk.ne_ h.st hg (by decide)), h.hd.only ho (Blk.ne_ h.hd hg (by decide)), h.rs.only ho (Blk.ne_ h.rs hg (by decide))⟩
theorem lit1_int (w : World) (x : Int) : (w.alloc (.cells #[.int .i64 x] 3)).ownsRow w.heap.size 3 1 (.slice (some ⟨w.heap.size, 0, none⟩) 1 1) 1 [.int .i64 x] :=
  ⟨rfl, .inr ⟨w.heap.size, 1, #[.int .i64 x], rfl, Nat.le_refl _, heap_alloc_new _ _, Nat.le_refl _, by unfold maxLen; omega, rfl, rfl⟩⟩
def RemRNo (w : World) (m : RSt) (pv fv : Value) (ed : Ending) (w' : World) : Prop := ed = .returned (.tuple #[storeV m pv fv, .bool false]) ∧ Below w.heap.size w w'
def RemRPost (w : World) (B : Nat) (m : RSt) (i : Nat) (ed : Ending) (w' : World) : Prop := ∃ pv fv L, ed = .returned (.tuple #[storeV (m.rem i) pv fv, .bool true]) ∧ Below w.heap.size w w' ∧ RefS w' B pv fv (m.rem i) L
set_option maxRecDepth 100000 in
set_option maxHeartbeats 4000000 in
attribute [local go_sem ↓] wp_store_ent in
theorem rremr_no (w : World) (B : Nat) (pv fv : Value) (m : RSt) (L : List PRow) (k : Nat) (h : RefS w B pv fv m L) (hB : B ≤ w.heap.size) (hw : WfR m k) (hk : k ≤ 2000) (s u : Int) (hno : m.ok s u = false) :
    Calls Try.prog 28 #[storeV m pv fv, hdl s u] w (RemRNo w m pv fv) := by
  obtain ⟨A, c, rfl⟩ := own_form h.row
  obtain ⟨Af, cf, rfl⟩ := own_form h.fre
  obtain ⟨n, hn⟩ : ∃ n, L.length = n := ⟨_, rfl⟩
  have hml := h.len
  have hwl := hw.len
  rw [hn] at hml ⊢
  obtain ⟨most, hmo⟩ : ∃ x, m.most = x := ⟨_, rfl⟩
  obtain ⟨fl, hfl⟩ : ∃ x, m.fr.length = x := ⟨_, rfl⟩
  show Calls _ _ #[.agg #[.int .i64 (m.most : Int), _, _], _] _ _
  rw [hmo, hfl]
  rw [hn, hfl] at h
  have HS := Lib.hid h
  have HW := Lib.hid hw
  have HN := Lib.hid hn
  have HML := Lib.hid hml
  have HMO := Lib.hid hmo
  have HFL := Lib.hid hfl
  have hn2 : n ≤ 2000 := by omega
  have HV : Hid (storeV m (.slice A n c) (.slice Af fl cf) = .agg #[.int .i64 (most : Int), .slice A n c, .slice Af fl cf]) := Lib.hid (by rw [← hmo])
  obtain ⟨b, hbw⟩ : ∃ b, w.heap.size = b := ⟨_, rfl⟩
  have HBW := Lib.hid hbw
  clear h hw hn hmo hfl hml hwl
  have HNO := Lib.hid hno
  clear hno
  go_enter Try.func28, Try.ntmps28
  go_upto_region 1 with (fail)
  generalize hwa : World.alloc (World.alloc (World.alloc w _) _) _ = wa
  have hb0 : Below w.heap.size w wa := by rw [← hwa]; exact (((Below.refl _ _).alloc (Nat.le_refl _) _).alloc (by simp) _).alloc (by simp; omega) _
  have hxa : RemB wa w.heap.size most (.slice A n c) (.slice Af fl cf) s u := by
    rw [← hwa]
    exact ⟨((Blk.new w _ _).alloc _).alloc _, (blk_at (by simp)).alloc _, blk_at (by simp)⟩
  rw [hbw] at hb0 hxa
  have HB0 := Lib.hid hb0
  have HX0 := Lib.hid hxa
  have HS0 := Lib.hid (HS.out.below (by rw [HBW.out]; exact hb0))
  have x0 : wa.cell? ⟨b, 0, none⟩ = some (.int .i64 (most : Int)) := hxa.st.cell 0
  have x1 : wa.cell? ⟨b, 1, none⟩ = some (.slice A n c) := hxa.st.cell 1
  have x2 : wa.cell? ⟨b, 2, none⟩ = some (.slice Af fl cf) := hxa.st.cell 2
  have k0 : wa.cell? ⟨b + 1, 0, none⟩ = some (.int .i64 s) := hxa.hd.cell 0
  have k1 : wa.cell? ⟨b + 1, 1, none⟩ = some (.int .i64 u) := hxa.hd.cell 1
  have hz0 : b ≤ wa.heap.size := by rw [← HBW.out]; exact hb0.size
  clear hwa hb0 hxa hbw
  have HG : Hid (Calls Try.prog 25 #[.agg #[.int .i64 (most : Int), .slice A n c, .slice Af fl cf], hdl s u] wa fun e w' => e = .returned (.tuple #[entV ent0 (.slice none 0 0) (.slice none 0 0), .bool false]) ∧ Below wa.heap.size wa w') := by
    have h1 := rgetr_no wa B (.slice A n c) (.slice Af fl cf) m L k HS0.out HW.out hk s u HNO.out
    rw [HV.out] at h1
    exact h1
  go_wp2_with fail
  refine HG.out.mono ?_
  rintro e w1 ⟨rfl, hb1⟩
  have qs := box_sto w1 ent0 (.slice none 0 0) (.slice none 0 0) (entCells_one rfl rfl)
  have HB1 := Lib.hid (HB0.out.trans (hb1.mono hz0))
  have HX1 := Lib.hid (HX0.out.below hb1)
  have hz1 := HB1.out.size
  clear hb1 x0 x1 x2 k0 k1 HG
  go_upto_region 2 with (fail)
  generalize hwb : storeMid _ _ _ = w2
  have hbx := box_end hwb
  have HB2 := Lib.hid (HB1.out.trans (hbx.1.mono (by rw [← HBW.out]; exact hz1)))
  have HX2 := Lib.hid (HX1.out.below hbx.1)
  have x0 : w2.cell? ⟨b, 0, none⟩ = some (.int .i64 (most : Int)) := HX2.out.st.cell 0
  have x1 : w2.cell? ⟨b, 1, none⟩ = some (.slice A n c) := HX2.out.st.cell 1
  have x2 : w2.cell? ⟨b, 2, none⟩ = some (.slice Af fl cf) := HX2.out.st.cell 2
  have y0 := HX2.out.rs.cell 0
  have y1 := HX2.out.rs.cell 1
  have y2 := HX2.out.rs.cell 2
  have f0 := HX2.out.rs.frozen 0
  have f1 := HX2.out.rs.frozen 1
  have f2 := HX2.out.rs.frozen 2
  simp at y0 y1 y2
  clear qs hwb hbx HX1
  go_wp2_with fail
  have hrs : Blk _ (b + 1 + 1) 28 #[.int .i64 (most : Int), .slice A n c, .slice Af fl cf] := ((HX2.out.rs.set_ 0 (.int .i64 (most : Int))).set_ 1 (.slice A n c)).set_ 2 (.slice Af fl cf)
  refine bodyPost_ret (results_cell_tmp rfl _ _ (b + 1 + 1) _ _ (0, 0) _ rfl hrs Try.underlying28 rfl (by kernel_rfl)) rfl ⟨?_, ?_⟩
  · rw [HV.out]; rfl
  · have hq : ∀ x, b ≤ b + x := fun x => by omega
    rw [HBW.out]
    exact ((HB2.out.setCell (p := ⟨b + 1 + 1, 0, none⟩) (hq 2) _).setCell (p := ⟨b + 1 + 1, 1, none⟩) (hq 2) _).setCell (p := ⟨b + 1 + 1, 2, none⟩) (hq 2) _
set_option maxRecDepth 100000 in
set_option maxHeartbeats 8000000 in
attribute [local go_sem ↓] wp_store_ent wp_store_place in
theorem rremr_ok (w : World) (B : Nat) (pv fv : Value) (m : RSt) (L : List PRow) (k : Nat) (h : RefS w B pv fv m L) (hB : B ≤ w.heap.size) (hw : WfR m k) (hk : k ≤ 2000) (i : Nat) (u : Int) (p : Plc) (hpp : m.pl[i]? = some p) (hf : p.full = true) (hu : (p.uses : Int) - 1 = u) :
    Calls Try.prog 28 #[storeV m pv fv, hdl (i : Int) u] w (RemRPost w B m i) := by
  obtain ⟨i0, hi0, hz0', hz1, hz2⟩ := info_parts place_info
  obtain ⟨i1, hi1, hy0, hy1, hy2⟩ := info_parts int_infoE
  have HI0 := Lib.hid hi0
  have HZ0 := Lib.hid hz0'
  have HI1 := Lib.hid hi1
  have HY0 := Lib.hid hy0
  clear hi0 hz0' hi1 hy0
  have hil := (List.getElem?_eq_some_iff.1 hpp).1
  have husk := hw.uses p (List.mem_of_getElem? hpp)
  obtain ⟨A, c, rfl⟩ := own_form h.row
  obtain ⟨Af, cf, rfl⟩ := own_form h.fre
  obtain ⟨n, hn⟩ : ∃ n, L.length = n := ⟨_, rfl⟩
  have hml := h.len
  have hwl := hw.len
  rw [hn] at hml ⊢
  obtain ⟨most, hmo⟩ : ∃ x, m.most = x := ⟨_, rfl⟩
  obtain ⟨fl, hfl⟩ : ∃ x, m.fr.length = x := ⟨_, rfl⟩
  show Calls _ _ #[.agg #[.int .i64 (m.most : Int), _, _], _] _ _
  rw [hmo, hfl]
  rw [hn, hfl] at h
  have HS := Lib.hid h
  have HW := Lib.hid hw
  have HN := Lib.hid hn
  have HML := Lib.hid hml
  have HMO := Lib.hid hmo
  have HFL := Lib.hid hfl
  have hn2 : n ≤ 2000 := by omega
  have HV : Hid (storeV m (.slice A n c) (.slice Af fl cf) = .agg #[.int .i64 (most : Int), .slice A n c, .slice Af fl cf]) := Lib.hid (by rw [← hmo])
  obtain ⟨b, hbw⟩ : ∃ b, w.heap.size = b := ⟨_, rfl⟩
  have HBW := Lib.hid hbw
  clear h hw hn hmo hfl hml hwl
  have hin : i < n := by have := HML.out; omega
  have HPP := Lib.hid (And.intro hpp (And.intro hf hu))
  obtain ⟨us, hus⟩ : ∃ x, p.uses = x := ⟨_, rfl⟩
  have HUS := Lib.hid hus
  rw [hus] at husk
  clear hpp hf hu hil hus
  go_enter Try.func28, Try.ntmps28
  go_upto_region 1 with (fail)
  generalize hwa : World.alloc (World.alloc (World.alloc w _) _) _ = wa
  have hb0 : Below w.heap.size w wa := by rw [← hwa]; exact (((Below.refl _ _).alloc (Nat.le_refl _) _).alloc (by simp) _).alloc (by simp; omega) _
  have hxa : RemB wa w.heap.size most (.slice A n c) (.slice Af fl cf) (i : Int) u := by
    rw [← hwa]
    exact ⟨((Blk.new w _ _).alloc _).alloc _, (blk_at (by simp)).alloc _, blk_at (by simp)⟩
  rw [hbw] at hb0 hxa
  have HB0 := Lib.hid hb0
  have HX0 := Lib.hid hxa
  have HS0 := Lib.hid (HS.out.below (by rw [HBW.out]; exact hb0))
  have x0 : wa.cell? ⟨b, 0, none⟩ = some (.int .i64 (most : Int)) := hxa.st.cell 0
  have x1 : wa.cell? ⟨b, 1, none⟩ = some (.slice A n c) := hxa.st.cell 1
  have x2 : wa.cell? ⟨b, 2, none⟩ = some (.slice Af fl cf) := hxa.st.cell 2
  have k0 : wa.cell? ⟨b + 1, 0, none⟩ = some (.int .i64 (i : Int)) := hxa.hd.cell 0
  have k1 : wa.cell? ⟨b + 1, 1, none⟩ = some (.int .i64 u) := hxa.hd.cell 1
  have hz0 : b ≤ wa.heap.size := by rw [← HBW.out]; exact hb0.size
  clear hwa hb0 hxa hbw
  have HG : Hid (Calls Try.prog 25 #[.agg #[.int .i64 (most : Int), .slice A n c, .slice Af fl cf], hdl (i : Int) u] wa (GetRPost wa B p.e)) := by
    have h1 := rgetr_ok wa B (.slice A n c) (.slice Af fl cf) m L k HS0.out HW.out hk i u p HPP.out.1 HPP.out.2.1 HPP.out.2.2
    rw [HV.out] at h1
    exact h1
  go_wp2_with fail
  refine HG.out.mono ?_
  rintro ed w0 ⟨rvg, pvg, rfl, hb1, heg⟩
  have qs := box_sto w0 p.e rvg pvg heg.one
  have HBA := Lib.hid (HB0.out.trans (hb1.mono hz0))
  have HXA := Lib.hid (HX0.out.below hb1)
  have HSA := Lib.hid (HS0.out.below hb1)
  have hzA := HBA.out.size
  clear hb1 x0 x1 x2 k0 k1 HG heg
  go_upto_region 2 with (fail)
  generalize hwb : storeMid _ _ _ = w1
  have hbx := box_end hwb
  have HB1' := Lib.hid (HBA.out.trans (hbx.1.mono (by rw [← HBW.out]; exact hzA)))
  have HX1 := Lib.hid (HXA.out.below hbx.1)
  have HS1 := Lib.hid (HSA.out.below hbx.1)
  have hz1' : b ≤ w1.heap.size := by rw [← HBW.out]; exact HB1'.out.size
  have x1 : w1.cell? ⟨b, 1, none⟩ = some (.slice A n c) := HX1.out.st.cell 1
  clear qs hwb hbx HXA HSA HBA HX0 HS0 HS
  have HRD : Hid (∀ W, Below w1.heap.size w1 W → Reads W w1.heap.size 43 A n (placesV L)) := fun W hW => by
    have h1 := HS1.out.row
    rw [HN.out] at h1
    exact (Reads.of_own h1).below hW
  go_upto_region 4 with (fail)
  have HPO := Lib.hid (pempty_own w1)
  have HONE : Hid (∀ u ∈ placesV L, u.oneCell' = true) := fun u hu => by
    obtain ⟨r, hr, hu⟩ := List.mem_flatMap.1 hu
    exact PRow.one (own_oneCell (HS1.out.ent r hr).raw) (own_oneCell (HS1.out.ent r hr).peers) u hu
  have HRDA : Hid (Reads (w1.alloc (.cells #[] 80)) (w1.alloc (.cells #[] 80)).heap.size 43 A n (placesV L)) := Lib.hid ((HRD.out _ ((Below.refl _ _).alloc (Nat.le_refl _) _)).more (by simp))
  have hlb1 := HX1.out.st.lt
  go_upto_region 5 with (first
    | (at_builtin
       refine wpList_append_any _ rfl (.tmp 18) (.tmp 20) _ rfl w1.heap.size 80 i0 _ 43 160 Try.underlying26 HI0.out HZ0.out hz1 hz2 rfl (by omega) (.slice (some ⟨w1.heap.size, 0, none⟩) 0 0) 0 [] (by rfl)
         HPO.out _ A n c _ (by rfl) HRDA.out HONE.out (by unfold maxLen; omega) (by omega) (by simp) ?_
       intro v7 w2 ho2 hg2 hat2
       rw [Nat.zero_add, List.nil_append] at ho2
       obtain ⟨A7, c7, rfl⟩ := own_form ho2
       have hb2 : Below w1.heap.size w1 w2 := ((Below.refl _ _).alloc (Nat.le_refl _) _).grown hg2 (by simp) (fun g e => (HPO.out.lt g e).1)
       have HB2 := Lib.hid hb2
       have HO2 := Lib.hid ho2
       clear ho2 hg2 hat2 hb2))
  obtain ⟨r1, hr1⟩ : ∃ r, L[i]? = some r := ⟨L[i]'(by have := HN.out; omega), List.getElem?_eq_getElem _⟩
  have hr1p : r1.p = p := by
    have h1 : m.pl[i]? = some r1.p := by rw [← HS1.out.eq, List.getElem?_map, hr1]; rfl
    rw [HPP.out.1] at h1
    injection h1 with h1
    exact h1.symm
  obtain ⟨gp, cN, hv, hgb, _⟩ := HO2.out.form (by omega)
  injection hv with hv1 _ hv3
  subst hv1
  subst hv3
  obtain ⟨hcc, hc63⟩ := own_cap HO2.out
  have z1 : w2.cell? ⟨gp, i * 43 + 1, none⟩ = some (.int .i64 (us : Int)) := by
    rw [HO2.out.cellAt (i * 43 + 1) (by omega)]
    have h2 := flat_get _ _ PRow.len L hr1 (j := 1) (by omega)
    refine h2.trans ?_
    show some (Value.int .i64 (r1.p.uses : Int)) = _
    rw [hr1p, HUS.out]
  have HX2 := Lib.hid (HX1.out.below HB2.out)
  have k0 : w2.cell? ⟨b + 1, 0, none⟩ = some (.int .i64 (i : Int)) := HX2.out.hd.cell 0
  have t1 : (i : Int) < (n : Int) := by omega
  have t2 : (0 : Int) ≤ i := by omega
  have hz2' := HB2.out.size
  obtain ⟨csP, hkP⟩ : ∃ cs, Blk w2 gp 80 cs := by
    rcases HO2.out.2 with ⟨h1, _⟩ | ⟨g', cap, cur, h1, _, h2, _⟩
    · cases h1
    · injection h1 with h1 _ _
      injection h1 with h1
      injection h1 with h1
      subst h1
      exact ⟨_, h2⟩
  have HKP := Lib.hid hkP
  have qs : StoOk 43 w2.drew (.pointer (some ⟨gp, i * 43, none⟩)) (.agg #[.bool false, .int .i64 (us : Int), Value.int .u8 0, Value.int .u8 0, Value.int .u8 0, Value.int .u8 0, Value.int .u8 0, Value.int .u8 0, Value.int .u8 0, Value.int .u8 0, Value.int .u8 0, Value.int .u8 0, Value.int .u8 0, Value.int .u8 0, Value.int .u8 0, Value.int .u8 0, Value.int .u8 0, Value.int .u8 0, Value.int .u8 0, Value.int .u8 0, Value.int .u8 0, Value.int .u8 0, Value.int .u8 0, Value.int .u8 0, Value.int .u8 0, Value.int .u8 0, Value.int .u8 0, Value.int .u8 0, Value.int .u8 0, Value.int .u8 0, Value.int .u8 0, Value.int .u8 0, Value.int .u8 0, Value.int .u8 0, .slice none 0 0, .string { data := #[] }, .int .u64 0, .int .u64 0, .int .u64 0, .int .i64 0, .int .i64 0, .int .i64 0, .slice none 0 0]) := by
    have h1 : StoOk 43 w2.drew (.pointer (some ⟨gp, i * 43, none⟩)) (.agg (prowU us).cells.toArray) := ⟨_, _, _, rfl, rfl, (prowU us).len, owns_there HO2.out.drew i hin, PRow.one rfl rfl⟩
    rw [← prowU_eq us] at h1
    exact h1
  clear x1 hr1 hr1p hkP
  refine wp_region_noPanic ?_
  refine wp_region_held_drew (S := fun W => W.cell? ⟨b + 1, 0, none⟩ = some (.int .i64 (i : Int)) ∧ W.cell? ⟨gp, i * 43 + 1, none⟩ = some (.int .i64 (us : Int))) (by kernel_rfl) ⟨k0, z1⟩ (fun hHeld => ?_)
  refine wpAnyH_take (i := 0) (oi := ⟨some 22, _, _, _, _, _⟩) (v := ?_) rfl (by kernel_rfl) (by kernel_rfl) (by kernel_rfl) (fun _ _ _ h => h) (Or.inl ⟨by kernel_rfl, ?_⟩) hHeld ?_
  rotate_left
  · intro w hSw
    obtain ⟨s0, s1⟩ := hSw
    go_simp
    all_goals (with_reducible rfl)
  conv => arg 8; simp only [Act.put, List.setIfInBounds_toArray, List.set_cons_zero, List.set_cons_succ]
  refine wpAnyH_take (i := 1) (oi := ⟨some 23, _, _, _, _, _⟩) (v := ?_) rfl (by kernel_rfl) (by kernel_rfl) (by kernel_rfl) (fun _ _ _ h => h) (Or.inl ⟨by kernel_rfl, ?_⟩) hHeld ?_
  rotate_left
  · intro w hSw
    obtain ⟨s0, s1⟩ := hSw
    go_simp
    all_goals (with_reducible rfl)
  conv => arg 8; simp only [Act.put, List.setIfInBounds_toArray, List.set_cons_zero, List.set_cons_succ]
  refine wpAnyH_take (i := 2) (oi := ⟨some 24, _, _, _, _, _⟩) (v := ?_) rfl (by kernel_rfl) (by kernel_rfl) (by kernel_rfl) (fun _ _ _ h => h) (Or.inl ⟨by kernel_rfl, ?_⟩) hHeld ?_
  rotate_left
  · intro w hSw
    obtain ⟨s0, s1⟩ := hSw
    go_simp
    all_goals (with_reducible rfl)
  conv => arg 8; simp only [Act.put, List.setIfInBounds_toArray, List.set_cons_zero, List.set_cons_succ]
  refine wpAnyH_take (i := 3) (oi := ⟨some 25, _, _, _, _, _⟩) (v := ?_) rfl (by kernel_rfl) (by kernel_rfl) (by kernel_rfl) (fun _ _ _ h => h) (Or.inl ⟨by kernel_rfl, ?_⟩) hHeld ?_
  rotate_left
  · intro w hSw
    obtain ⟨s0, s1⟩ := hSw
    go_simp
    all_goals (with_reducible rfl)
  conv => arg 8; simp only [Act.put, List.setIfInBounds_toArray, List.set_cons_zero, List.set_cons_succ]
  refine wpAnyH_take (i := 4) (oi := ⟨some 26, _, _, _, _, _⟩) (v := ?_) rfl (by kernel_rfl) (by kernel_rfl) (by kernel_rfl) (fun _ _ _ h => h) (Or.inl ⟨by kernel_rfl, ?_⟩) hHeld ?_
  rotate_left
  · intro w hSw
    obtain ⟨s0, s1⟩ := hSw
    go_simp
    all_goals (with_reducible rfl)
  conv => arg 8; simp only [Act.put, List.setIfInBounds_toArray, List.set_cons_zero, List.set_cons_succ]
  refine wpAnyH_take (i := 5) (oi := ⟨some 27, _, _, _, _, _⟩) (v := ?_) rfl (by kernel_rfl) (by kernel_rfl) (by kernel_rfl) (fun _ _ _ h => h) (Or.inl ⟨by kernel_rfl, ?_⟩) hHeld ?_
  rotate_left
  · intro w hSw
    obtain ⟨s0, s1⟩ := hSw
    go_simp
    all_goals (with_reducible rfl)
  conv => arg 8; simp only [Act.put, List.setIfInBounds_toArray, List.set_cons_zero, List.set_cons_succ]
  refine wpAnyH_take (i := 6) (oi := ⟨some 28, _, _, _, _, _⟩) (v := ?_) rfl (by kernel_rfl) (by kernel_rfl) (by kernel_rfl) (fun _ _ _ h => h) (Or.inl ⟨by kernel_rfl, ?_⟩) hHeld ?_
  rotate_left
  · intro w hSw
    obtain ⟨s0, s1⟩ := hSw
    go_simp
    all_goals (with_reducible rfl)
  conv => arg 8; simp only [Act.put, List.setIfInBounds_toArray, List.set_cons_zero, List.set_cons_succ]
  refine wpAnyH_take (i := 7) (oi := ⟨some 29, _, _, _, _, _⟩) (v := ?_) rfl (by kernel_rfl) (by kernel_rfl) (by kernel_rfl) (fun _ _ _ h => h) (Or.inl ⟨by kernel_rfl, ?_⟩) hHeld ?_
  rotate_left
  · intro w hSw
    obtain ⟨s0, s1⟩ := hSw
    go_simp
    all_goals (with_reducible rfl)
  conv => arg 8; simp only [Act.put, List.setIfInBounds_toArray, List.set_cons_zero, List.set_cons_succ]
  refine wpAnyH_take (i := 8) (oi := ⟨some 30, _, _, _, _, _⟩) (v := ?_) rfl (by kernel_rfl) (by kernel_rfl) (by kernel_rfl) (fun _ _ _ h => h) (Or.inl ⟨by kernel_rfl, ?_⟩) hHeld ?_
  rotate_left
  · intro w hSw
    obtain ⟨s0, s1⟩ := hSw
    go_simp
    all_goals (with_reducible rfl)
  conv => arg 8; simp only [Act.put, List.setIfInBounds_toArray, List.set_cons_zero, List.set_cons_succ]
  refine wpAnyH_take (i := 9) (oi := ⟨some 31, _, _, _, _, _⟩) (v := ?_) rfl (by kernel_rfl) (by kernel_rfl) (by kernel_rfl) (fun _ _ _ h => h) (Or.inl ⟨by kernel_rfl, ?_⟩) hHeld ?_
  rotate_left
  · intro w hSw
    obtain ⟨s0, s1⟩ := hSw
    go_simp
    all_goals (with_reducible rfl)
  conv => arg 8; simp only [Act.put, List.setIfInBounds_toArray, List.set_cons_zero, List.set_cons_succ]
  refine wpAnyH_take (i := 10) (oi := ⟨some 32, _, _, _, _, _⟩) (v := ?_) rfl (by kernel_rfl) (by kernel_rfl) (by kernel_rfl) (fun _ _ _ h => h) (Or.inl ⟨by kernel_rfl, ?_⟩) hHeld ?_
  rotate_left
  · intro w hSw
    obtain ⟨s0, s1⟩ := hSw
    go_simp
    all_goals (with_reducible rfl)
  conv => arg 8; simp only [Act.put, List.setIfInBounds_toArray, List.set_cons_zero, List.set_cons_succ]
  refine wpAnyH_ready (rs := [11]) (by kernel_rfl) (by simp) ?_
  refine AllReadyH.cons (o := ⟨none, _, _, _, _, _⟩) rfl (fun K hK => ?_) AllReadyH.nil
  go_simp
  generalize hwb : storeMid _ _ _ = w5
  have e0 : storeMid w2.drew (.pointer (some ⟨gp, i * 43, none⟩)) (.agg #[.bool false, .int .i64 (us : Int), Value.int .u8 0, Value.int .u8 0, Value.int .u8 0, Value.int .u8 0, Value.int .u8 0, Value.int .u8 0, Value.int .u8 0, Value.int .u8 0, Value.int .u8 0, Value.int .u8 0, Value.int .u8 0, Value.int .u8 0, Value.int .u8 0, Value.int .u8 0, Value.int .u8 0, Value.int .u8 0, Value.int .u8 0, Value.int .u8 0, Value.int .u8 0, Value.int .u8 0, Value.int .u8 0, Value.int .u8 0, Value.int .u8 0, Value.int .u8 0, Value.int .u8 0, Value.int .u8 0, Value.int .u8 0, Value.int .u8 0, Value.int .u8 0, Value.int .u8 0, Value.int .u8 0, Value.int .u8 0, .slice none 0 0, .string { data := #[] }, .int .u64 0, .int .u64 0, .int .u64 0, .int .i64 0, .int .i64 0, .int .i64 0, .slice none 0 0]) = w2.drew.setCells gp (i * 43) (prowU us).cells := by rw [prowU_eq us]; exact storeMid_eq _ _ _ _
  have he5 : w5 = w2.drew.setCells gp (i * 43) (prowU us).cells := by rw [← hwb]; exact e0
  have o5 : Only (fun k => k = gp) w2 w5 := by rw [he5]; exact (Only.of_below (fun k => k = gp) (belowDrewR (Below.refl _ _))).trans (setCells_only (fun k => k = gp) w2.drew gp _ _ (.inl rfl)) (fun k hk => .inl hk)
  have hp5 : w5.ownsRow w1.heap.size 80 43 (.slice (some ⟨gp, 0, none⟩) n c7) n (placesV (L.set i (prowU us))) := by
    have h1 := owns_set HO2.out.drew i hin (prowU us).cells (prowU us).len
    rw [he5]
    have h2 := flat_set _ _ PRow.len L i (by rw [HN.out]; exact hin) (prowU us)
    unfold placesV
    rw [h2]
    exact h1
  have HP5 := Lib.hid hp5
  have HO5 := Lib.hid o5
  have HXR5 := Lib.hid (HX2.out.row HKP.out o5)
  have hz5 := o5.size
  clear hwb e0 he5 o5 hp5 qs
  refine hK.out _ _ ?_ (fun hHeld => ?_)
  · refine ⟨HXR5.out.hd.cell 0, ?_⟩
    rw [HP5.out.cellAt (i * 43 + 1) (by omega)]
    exact (flat_get _ _ PRow.len (L.set i (prowU us)) (List.getElem?_set_self (by rw [HN.out]; exact hin)) (j := 1) (by omega)).trans rfl
  clear hK K
  conv => arg 8; simp only [Act.put, List.setIfInBounds_toArray, List.set_cons_zero, List.set_cons_succ]
  refine wpAnyH_done (by kernel_rfl) ?_ _
  refine NoPanic.normal ?_
  clear hHeld k0 z1
  have HF5 : Hid (w5.ownsRow B 3 1 (.slice Af fl cf) fl (natsV m.fr)) := by
    have h1 := owns_below HS1.out.fre HB2.out
    rw [HFL.out] at h1
    exact owns_only h1 HO5.out (fun g h2 h3 => own_blk_ne h1 HKP.out (by decide) (h3 ▸ h2))
  have HEN5 : Hid (∀ r ∈ L, EntAt w5 B r.p.e r.rv r.pv) := fun r hr => by
    have h1 := (HS1.out.ent r hr).below HB2.out
    exact h1.only HO5.out (fun g h2 h3 => own_blk_ne h1.raw HKP.out (by decide) (h3 ▸ h2)) (fun g h2 h3 => own_blk_ne h1.peers HKP.out (by decide) (h3 ▸ h2))
  have HB5 := Lib.hid (Only.below_trans (HB1'.out.trans (HB2.out.mono hz1')) HO5.out (by omega) (fun k hk => by omega))
  have x0 : w5.cell? ⟨b, 0, none⟩ = some (.int .i64 (most : Int)) := HXR5.out.st.cell 0
  have x2 : w5.cell? ⟨b, 2, none⟩ = some (.slice Af fl cf) := HXR5.out.st.cell 2
  have k0 : w5.cell? ⟨b + 1, 0, none⟩ = some (.int .i64 (i : Int)) := HXR5.out.hd.cell 0
  have hb1l := HXR5.out.st.lt
  have hb2l := HXR5.out.hd.lt
  have HRF : Hid (∀ W, Below w5.heap.size w5 W → Reads W w5.heap.size 1 Af fl (natsV m.fr)) := fun W hW => (Reads.of_own HF5.out).below hW
  have hfl2 : fl ≤ 2000 := by
    have h1 : ∀ i ∈ m.fr, i < m.pl.length := fun i hi => by
      obtain ⟨p, hp, _⟩ := HW.out.free i hi
      exact (List.getElem?_eq_some_iff.1 hp).1
    have h2 := nodup_bd HW.out.nd h1
    have h3 := HML.out
    have h4 := HFL.out
    omega
  have HBS := Lib.hid (Below.refl w5.heap.size w5)
  have hBw5 : B ≤ w5.heap.size := by have := HBW.out; omega
  go_upto_region 6 with (fail)
  refine wp_region_noPanic ?_
  refine wp_region_held_drew (S := fun W => W.cell? ⟨b, 0, none⟩ = some (.int .i64 (most : Int)) ∧ W.cell? ⟨b, 2, none⟩ = some (.slice Af fl cf) ∧ W.cell? ⟨b + 1, 0, none⟩ = some (.int .i64 (i : Int))) (by kernel_rfl) ⟨x0, x2, k0⟩ (fun hHeld => ?_)
  refine wpAnyH_take (i := 0) (oi := ⟨some 33, _, _, _, _, _⟩) (v := ?_) rfl (by kernel_rfl) (by kernel_rfl) (by kernel_rfl) (fun _ _ _ h => h) (Or.inl ⟨by kernel_rfl, ?_⟩) hHeld ?_
  rotate_left
  · intro w hSw
    obtain ⟨s0, s1, s2⟩ := hSw
    go_simp
    all_goals (with_reducible rfl)
  conv => arg 8; simp only [Act.put, List.setIfInBounds_toArray, List.set_cons_zero, List.set_cons_succ]
  refine wpAnyH_take (i := 1) (oi := ⟨some 34, _, _, _, _, _⟩) (v := ?_) rfl (by kernel_rfl) (by kernel_rfl) (by kernel_rfl) (fun _ _ _ h => h) (Or.inl ⟨by kernel_rfl, ?_⟩) hHeld ?_
  rotate_left
  · intro w hSw
    obtain ⟨s0, s1, s2⟩ := hSw
    go_simp
    all_goals (with_reducible rfl)
  conv => arg 8; simp only [Act.put, List.setIfInBounds_toArray, List.set_cons_zero, List.set_cons_succ]
  refine wpAnyH_take (i := 2) (oi := ⟨some 35, _, _, _, _, _⟩) (v := ?_) rfl (by kernel_rfl) (by kernel_rfl) (by kernel_rfl) (fun _ _ _ h => h) (Or.inl ⟨by kernel_rfl, ?_⟩) hHeld ?_
  rotate_left
  · intro w hSw
    obtain ⟨s0, s1, s2⟩ := hSw
    go_simp
    all_goals (with_reducible rfl)
  conv => arg 8; simp only [Act.put, List.setIfInBounds_toArray, List.set_cons_zero, List.set_cons_succ]
  refine wpAnyH_take (i := 4) (oi := ⟨some 37, _, _, _, _, _⟩) (v := ?_) rfl (by kernel_rfl) (by kernel_rfl) (by kernel_rfl) (fun _ _ _ h => h) (Or.inl ⟨by kernel_rfl, ?_⟩) hHeld ?_
  rotate_left
  · intro w hSw
    obtain ⟨s0, s1, s2⟩ := hSw
    go_simp
    all_goals (with_reducible rfl)
  conv => arg 8; simp only [Act.put, List.setIfInBounds_toArray, List.set_cons_zero, List.set_cons_succ]
  refine wpAnyH_take (i := 5) (oi := ⟨some 38, _, _, _, _, _⟩) (v := ?_) rfl (by kernel_rfl) (by kernel_rfl) (by kernel_rfl) (fun _ _ _ h => h) (Or.inl ⟨by kernel_rfl, ?_⟩) hHeld ?_
  rotate_left
  · intro w hSw
    obtain ⟨s0, s1, s2⟩ := hSw
    go_simp
    all_goals (with_reducible rfl)
  conv => arg 8; simp only [Act.put, List.setIfInBounds_toArray, List.set_cons_zero, List.set_cons_succ]
  refine wpAnyH_take (i := 7) (oi := ⟨some 40, _, _, _, _, _⟩) (v := ?_) rfl (by kernel_rfl) (by kernel_rfl) (by kernel_rfl) (fun _ _ _ h => h) (Or.inl ⟨by kernel_rfl, ?_⟩) hHeld ?_
  rotate_left
  · intro w hSw
    obtain ⟨s0, s1, s2⟩ := hSw
    go_simp
    all_goals (with_reducible rfl)
  conv => arg 8; simp only [Act.put, List.setIfInBounds_toArray, List.set_cons_zero, List.set_cons_succ]
  refine wpAnyH_take (i := 8) (oi := ⟨some 41, _, _, _, _, _⟩) (v := ?_) rfl (by kernel_rfl) (by kernel_rfl) (by kernel_rfl) (fun _ _ _ h => h) (Or.inl ⟨by kernel_rfl, ?_⟩) hHeld ?_
  rotate_left
  · intro w hSw
    obtain ⟨s0, s1, s2⟩ := hSw
    go_simp
    all_goals (with_reducible rfl)
  conv => arg 8; simp only [Act.put, List.setIfInBounds_toArray, List.set_cons_zero, List.set_cons_succ]
  refine wpAnyH_ready (rs := [3, 9]) (by kernel_rfl) (by simp) ?_
  refine AllReadyH.cons (o := ⟨some 36, _, _, _, _, _⟩) rfl (fun K hK => ?_) (AllReadyH.cons (o := ⟨some 42, _, _, _, _, _⟩) rfl (fun K hK => ?_) AllReadyH.nil)
  · go_simp
    generalize hW : World.drew (World.alloc _ _) = y1
    have hb1 : Below w5.heap.size w5 y1 := by rw [← hW]; exact belowDrewR ((Below.refl _ _).alloc (Nat.le_refl _) _)
    have ho1 : y1.ownsRow w5.heap.size 3 1 (.slice (some ⟨w5.heap.size, 0, none⟩) 0 0) 0 [] := by rw [← hW]; exact (owns_base2 (lit_ownsE w5 3) HBS.out.size).drew
    have HE1 := Lib.hid ho1
    have HB1_ := Lib.hid (HBS.out.trans (hb1.mono HBS.out.size))
    clear hW hb1 ho1 hHeld
    refine hK.out _ _ ⟨(HB1_.out.cell hb1l).trans x0, (HB1_.out.cell hb1l).trans x2, (HB1_.out.cell hb2l).trans k0⟩ (fun hHeld => ?_)
    clear hK K
    conv => arg 8; simp only [Act.put, List.setIfInBounds_toArray, List.set_cons_zero, List.set_cons_succ]
    refine wpAnyH_ready (rs := [6, 9]) (by kernel_rfl) (by simp) ?_
    refine AllReadyH.cons (o := ⟨some 39, _, _, _, _, _⟩) rfl (fun K hK => ?_) (AllReadyH.cons (o := ⟨some 42, _, _, _, _, _⟩) rfl (fun K hK => ?_) AllReadyH.nil)
    · refine step_append_any _ (by rfl) (.tmp 36) (.tmp 38) _ (by rfl) w5.heap.size 3 i1 _ 1 8 Try.underlying22 HI1.out HY0.out hy1 hy2 rfl (by omega) (.slice (some ⟨w5.heap.size, 0, none⟩) 0 0) 0 ([]) (by rfl) HE1.out _ Af fl cf (natsV m.fr) (by rfl) (HRF.out _ HB1_.out) (by unfold natsV; exact intsV_one _) (by unfold maxLen; omega) (by omega) HB1_.out.size ?_
      intro v2 y2 ho2 hg2 hat2
      rw [Nat.zero_add, List.nil_append] at ho2
      obtain ⟨AA2, cc2, rfl⟩ := own_form ho2
      have hq2 : Below w5.heap.size w5 y2 := HB1_.out.grown hg2 HB1_.out.size (fun g e => (HE1.out.lt g e).1)
      have HE2 := Lib.hid ho2
      have HB2_ := Lib.hid hq2
      clear ho2 hg2 hat2 hq2 hHeld
      refine hK.out _ _ ⟨(HB2_.out.cell hb1l).trans x0, (HB2_.out.cell hb1l).trans x2, (HB2_.out.cell hb2l).trans k0⟩ (fun hHeld => ?_)
      clear hK K
      conv => arg 8; simp only [Act.put, List.setIfInBounds_toArray, List.set_cons_zero, List.set_cons_succ]
      refine wpAnyH_ready (rs := [9]) (by kernel_rfl) (by simp) ?_
      refine AllReadyH.cons (o := ⟨some 42, _, _, _, _, _⟩) rfl (fun K hK => ?_) AllReadyH.nil
      go_simp
      generalize hW : World.alloc _ _ = y3
      have hb3 : Below y2.heap.size y2 y3 := by rw [← hW]; exact ((Below.refl _ _).alloc (Nat.le_refl _) _)
      have ho3 : y3.ownsRow w5.heap.size 3 1 (.slice (some ⟨y2.heap.size, 0, none⟩) 1 1) 1 [.int .i64 (i : Int)] := by rw [← hW]; exact (owns_base2 (lit1_int y2 (i : Int)) HB2_.out.size)
      have HX3 := Lib.hid ho3
      have HE3 := Lib.hid (owns_below HE2.out hb3)
      have HB3_ := Lib.hid (HB2_.out.trans (hb3.mono HB2_.out.size))
      clear hW hb3 ho3 hHeld
      refine hK.out _ _ ⟨(HB3_.out.cell hb1l).trans x0, (HB3_.out.cell hb1l).trans x2, (HB3_.out.cell hb2l).trans k0⟩ (fun hHeld => ?_)
      clear hK K
      conv => arg 8; simp only [Act.put, List.setIfInBounds_toArray, List.set_cons_zero, List.set_cons_succ]
      refine wpAnyH_ready (rs := [10]) (by kernel_rfl) (by simp) ?_
      refine AllReadyH.cons (o := ⟨some 43, _, _, _, _, _⟩) rfl (fun K hK => ?_) AllReadyH.nil
      refine step_append_any _ (by rfl) (.tmp 39) (.tmp 42) _ (by rfl) w5.heap.size 3 i1 _ 1 8 Try.underlying22 HI1.out HY0.out hy1 hy2 rfl (by omega) (.slice AA2 fl cc2) fl (natsV m.fr) (by rfl) HE3.out _ (some ⟨y2.heap.size, 0, none⟩) 1 1 ([.int .i64 (i : Int)]) (by rfl) (Reads.of_own HX3.out) (by simp [Value.oneCell']) (by unfold maxLen; omega) (by omega) HB3_.out.size ?_
      intro v4 y4 ho4 hg4 hat4
      skip
      obtain ⟨AA4, cc4, rfl⟩ := own_form ho4
      have hq4 : Below w5.heap.size w5 y4 := HB3_.out.grown hg4 HB3_.out.size (fun g e => (HE3.out.lt g e).1)
      have HE4 := Lib.hid ho4
      have HB4_ := Lib.hid hq4
      clear ho4 hg4 hat4 hq4 hHeld
      refine hK.out _ _ ⟨(HB4_.out.cell hb1l).trans x0, (HB4_.out.cell hb1l).trans x2, (HB4_.out.cell hb2l).trans k0⟩ (fun hHeld => ?_)
      clear hK K
      conv => arg 8; simp only [Act.put, List.setIfInBounds_toArray, List.set_cons_zero, List.set_cons_succ]
      refine wpAnyH_take (i := 11) (oi := ⟨some 44, _, _, _, _, _⟩) (v := ?_) rfl (by kernel_rfl) (by kernel_rfl) (by kernel_rfl) (fun _ _ _ h => h) (Or.inl ⟨by kernel_rfl, ?_⟩) hHeld ?_
      rotate_left
      · intro w hSw
        obtain ⟨s0, s1, s2⟩ := hSw
        go_simp
        all_goals (with_reducible rfl)
      conv => arg 8; simp only [Act.put, List.setIfInBounds_toArray, List.set_cons_zero, List.set_cons_succ]
      have HXL := HXR5.out.below HB4_.out
      have q0 := HXL.rs.cell 0
      have q1 := HXL.rs.cell 1
      have q2 := HXL.rs.cell 2
      have f0 := HXL.rs.frozen 0
      have f1' := HXL.rs.frozen 1
      have f2 := HXL.rs.frozen 2
      simp at q0 q1 q2
      have HXQ := Lib.hid HXL
      clear HXL
      refine wpAnyH_ready (rs := [12]) (by kernel_rfl) (by simp) ?_
      refine AllReadyH.cons (o := ⟨none, _, _, _, _, _⟩) rfl (fun K hK => ?_) AllReadyH.nil
      go_simp
      refine hK.out _ _ ?_ (fun hHeld => ?_)
      · exact ⟨(cell3 _ _ _ _ _ _ (show b + 1 + 1 ≠ b by omega)).trans ((HB4_.out.cell hb1l).trans x0), (cell3 _ _ _ _ _ _ (show b + 1 + 1 ≠ b by omega)).trans ((HB4_.out.cell hb1l).trans x2), (cell3 _ _ _ _ _ _ (show b + 1 + 1 ≠ b + 1 by omega)).trans ((HB4_.out.cell hb2l).trans k0)⟩
      clear hK K
      conv => arg 8; simp only [Act.put, List.setIfInBounds_toArray, List.set_cons_zero, List.set_cons_succ]
      refine wpAnyH_take (i := 13) (oi := ⟨some 5, _, _, _, _, _⟩) (v := ?_) rfl (by kernel_rfl) (by kernel_rfl) (by kernel_rfl) (fun _ _ _ h => h) (Or.inl ⟨by kernel_rfl, ?_⟩) hHeld ?_
      rotate_left
      · intro w hSw
        obtain ⟨s0, s1, s2⟩ := hSw
        go_simp
        all_goals (with_reducible rfl)
      conv => arg 8; simp only [Act.put, List.setIfInBounds_toArray, List.set_cons_zero, List.set_cons_succ]
      refine wpAnyH_done (by kernel_rfl) ?_ _
      refine NoPanic.normal ?_
      generalize hwf : World.setCell _ _ _ = wf
      have hrs : Blk wf (b + 1 + 1) 28 #[.int .i64 (most : Int), .slice (some ⟨gp, 0, none⟩) n c7, .slice AA4 (fl + 1) cc4] := by rw [← hwf]; exact ((HXQ.out.rs.set_ 0 (.int .i64 (most : Int))).set_ 1 (.slice (some ⟨gp, 0, none⟩) n c7)).set_ 2 (.slice AA4 (fl + 1) cc4)
      have oF : Only (fun k => k = b + 1 + 1) y4 wf := by rw [← hwf]; exact (((Only.refl (fun k => k = b + 1 + 1) y4).setCell_ (p := ⟨b + 1 + 1, 0, none⟩) (.inl rfl) _).setCell_ (p := ⟨b + 1 + 1, 1, none⟩) (.inl rfl) _).setCell_ (p := ⟨b + 1 + 1, 2, none⟩) (.inl rfl) _
      clear hwf hHeld q0 q1 q2 f0 f1' f2 x0 x2 k0
      go_wp2_with fail
      have hap : ∀ {base : Nat} {t : TypeId} {size n' : Nat} {v : Value} {xs : List Value}, y4.ownsRow base t size v n' xs → t ≠ 28 → ∀ g, v.ownBlock = some g → ¬ (g = b + 1 + 1) := fun hr n1 g hg hs => own_blk_ne hr HXQ.out.rs n1 (hs ▸ hg)
      have e1 : storeV (m.rem i) (.slice (some ⟨gp, 0, none⟩) n c7) (.slice AA4 (fl + 1) cc4) = .agg #[.int .i64 (most : Int), .slice (some ⟨gp, 0, none⟩) n c7, .slice AA4 (fl + 1) cc4] := by
        show Value.agg #[.int .i64 (m.most : Int), _, _] = _
        rw [HMO.out]
      have hBw : B ≤ w1.heap.size := by have := HBW.out; omega
      have hPW := owns_below HP5.out HB4_.out
      have hEW : ∀ r ∈ L, EntAt y4 B r.p.e r.rv r.pv := fun r hr => (HEN5.out r hr).below HB4_.out
      have hg9 : ((m.pl[i]?).getD plc0).uses = us := by rw [HPP.out.1]; exact HUS.out
      refine bodyPost_ret (results_cell_tmp rfl _ _ (b + 1 + 1) _ _ (0, 0) _ rfl hrs Try.underlying28 rfl (by kernel_rfl)) rfl ⟨.slice (some ⟨gp, 0, none⟩) n c7, .slice AA4 (fl + 1) cc4, L.set i (prowU us), ?_, ?_, ?_, ?_, ?_, ?_⟩
      · rw [e1]; rfl
      · rw [HBW.out]
        exact Only.below_trans (HB5.out.trans (HB4_.out.mono (by omega))) oF (by have := HB4_.out.size; omega) (fun k hk => by omega)
      · rw [List.map_set, HS1.out.eq]
        show _ = m.pl.set i ⟨false, ((m.pl[i]?).getD plc0).uses, ent0⟩
        rw [hg9]; rfl
      · rw [List.length_set, HN.out]
        exact owns_base2 (owns_only hPW oF (hap hPW (by decide))) hBw
      · intro r hr
        rcases List.mem_or_eq_of_mem_set hr with hr | rfl
        · exact (hEW r hr).only oF (hap (hEW r hr).raw (by decide)) (hap (hEW r hr).peers (by decide))
        · exact ent0_at _ _
      · show wf.ownsRow B 3 1 (.slice AA4 (fl + 1) cc4) (m.fr ++ [i]).length (natsV (m.fr ++ [i]))
        rw [List.length_append, HFL.out, natsV_append]
        exact owns_base2 (owns_only HE4.out oF (hap HE4.out (by decide))) hBw5
    · go_simp
      generalize hW : World.alloc _ _ = y5
      have hb5 : Below y1.heap.size y1 y5 := by rw [← hW]; exact ((Below.refl _ _).alloc (Nat.le_refl _) _)
      have ho5 : y5.ownsRow w5.heap.size 3 1 (.slice (some ⟨y1.heap.size, 0, none⟩) 1 1) 1 [.int .i64 (i : Int)] := by rw [← hW]; exact (owns_base2 (lit1_int y1 (i : Int)) HB1_.out.size)
      have HX5 := Lib.hid ho5
      have HE5 := Lib.hid (owns_below HE1.out hb5)
      have hne5 : w5.heap.size ≠ y1.heap.size := Nat.ne_of_lt (HE1.out.lt _ rfl).2
      have HB5_ := Lib.hid (HB1_.out.trans (hb5.mono HB1_.out.size))
      clear hW hb5 ho5 hHeld
      refine hK.out _ _ ⟨(HB5_.out.cell hb1l).trans x0, (HB5_.out.cell hb1l).trans x2, (HB5_.out.cell hb2l).trans k0⟩ (fun hHeld => ?_)
      clear hK K
      conv => arg 8; simp only [Act.put, List.setIfInBounds_toArray, List.set_cons_zero, List.set_cons_succ]
      refine wpAnyH_ready (rs := [6]) (by kernel_rfl) (by simp) ?_
      refine AllReadyH.cons (o := ⟨some 39, _, _, _, _, _⟩) rfl (fun K hK => ?_) AllReadyH.nil
      refine step_append_any _ (by rfl) (.tmp 36) (.tmp 38) _ (by rfl) w5.heap.size 3 i1 _ 1 8 Try.underlying22 HI1.out HY0.out hy1 hy2 rfl (by omega) (.slice (some ⟨w5.heap.size, 0, none⟩) 0 0) 0 ([]) (by rfl) HE5.out _ Af fl cf (natsV m.fr) (by rfl) (HRF.out _ HB5_.out) (by unfold natsV; exact intsV_one _) (by unfold maxLen; omega) (by omega) HB5_.out.size ?_
      intro v6 y6 ho6 hg6 hat6
      rw [Nat.zero_add, List.nil_append] at ho6
      obtain ⟨AA6, cc6, rfl⟩ := own_form ho6
      have hq6 : Below w5.heap.size w5 y6 := HB5_.out.grown hg6 HB5_.out.size (fun g e => (HE5.out.lt g e).1)
      have HE6 := Lib.hid ho6
      have HX6_ := Lib.hid (owns_only HX5.out (Only.of_grown hg6) (fun g h1 h2 => by
        have e1 : y1.heap.size = g := Option.some.inj h1
        have e2 : w5.heap.size = g := Option.some.inj h2
        omega))
      have HB6_ := Lib.hid hq6
      clear ho6 hg6 hat6 hq6 hHeld
      refine hK.out _ _ ⟨(HB6_.out.cell hb1l).trans x0, (HB6_.out.cell hb1l).trans x2, (HB6_.out.cell hb2l).trans k0⟩ (fun hHeld => ?_)
      clear hK K
      conv => arg 8; simp only [Act.put, List.setIfInBounds_toArray, List.set_cons_zero, List.set_cons_succ]
      refine wpAnyH_ready (rs := [10]) (by kernel_rfl) (by simp) ?_
      refine AllReadyH.cons (o := ⟨some 43, _, _, _, _, _⟩) rfl (fun K hK => ?_) AllReadyH.nil
      refine step_append_any _ (by rfl) (.tmp 39) (.tmp 42) _ (by rfl) w5.heap.size 3 i1 _ 1 8 Try.underlying22 HI1.out HY0.out hy1 hy2 rfl (by omega) (.slice AA6 fl cc6) fl (natsV m.fr) (by rfl) HE6.out _ (some ⟨y1.heap.size, 0, none⟩) 1 1 ([.int .i64 (i : Int)]) (by rfl) (Reads.of_own HX6_.out) (by simp [Value.oneCell']) (by unfold maxLen; omega) (by omega) HB6_.out.size ?_
      intro v7 y7 ho7 hg7 hat7
      skip
      obtain ⟨AA7, cc7, rfl⟩ := own_form ho7
      have hq7 : Below w5.heap.size w5 y7 := HB6_.out.grown hg7 HB6_.out.size (fun g e => (HE6.out.lt g e).1)
      have HE7 := Lib.hid ho7
      have HB7_ := Lib.hid hq7
      clear ho7 hg7 hat7 hq7 hHeld
      refine hK.out _ _ ⟨(HB7_.out.cell hb1l).trans x0, (HB7_.out.cell hb1l).trans x2, (HB7_.out.cell hb2l).trans k0⟩ (fun hHeld => ?_)
      clear hK K
      conv => arg 8; simp only [Act.put, List.setIfInBounds_toArray, List.set_cons_zero, List.set_cons_succ]
      refine wpAnyH_take (i := 11) (oi := ⟨some 44, _, _, _, _, _⟩) (v := ?_) rfl (by kernel_rfl) (by kernel_rfl) (by kernel_rfl) (fun _ _ _ h => h) (Or.inl ⟨by kernel_rfl, ?_⟩) hHeld ?_
      rotate_left
      · intro w hSw
        obtain ⟨s0, s1, s2⟩ := hSw
        go_simp
        all_goals (with_reducible rfl)
      conv => arg 8; simp only [Act.put, List.setIfInBounds_toArray, List.set_cons_zero, List.set_cons_succ]
      have HXL := HXR5.out.below HB7_.out
      have q0 := HXL.rs.cell 0
      have q1 := HXL.rs.cell 1
      have q2 := HXL.rs.cell 2
      have f0 := HXL.rs.frozen 0
      have f1' := HXL.rs.frozen 1
      have f2 := HXL.rs.frozen 2
      simp at q0 q1 q2
      have HXQ := Lib.hid HXL
      clear HXL
      refine wpAnyH_ready (rs := [12]) (by kernel_rfl) (by simp) ?_
      refine AllReadyH.cons (o := ⟨none, _, _, _, _, _⟩) rfl (fun K hK => ?_) AllReadyH.nil
      go_simp
      refine hK.out _ _ ?_ (fun hHeld => ?_)
      · exact ⟨(cell3 _ _ _ _ _ _ (show b + 1 + 1 ≠ b by omega)).trans ((HB7_.out.cell hb1l).trans x0), (cell3 _ _ _ _ _ _ (show b + 1 + 1 ≠ b by omega)).trans ((HB7_.out.cell hb1l).trans x2), (cell3 _ _ _ _ _ _ (show b + 1 + 1 ≠ b + 1 by omega)).trans ((HB7_.out.cell hb2l).trans k0)⟩
      clear hK K
      conv => arg 8; simp only [Act.put, List.setIfInBounds_toArray, List.set_cons_zero, List.set_cons_succ]
      refine wpAnyH_take (i := 13) (oi := ⟨some 5, _, _, _, _, _⟩) (v := ?_) rfl (by kernel_rfl) (by kernel_rfl) (by kernel_rfl) (fun _ _ _ h => h) (Or.inl ⟨by kernel_rfl, ?_⟩) hHeld ?_
      rotate_left
      · intro w hSw
        obtain ⟨s0, s1, s2⟩ := hSw
        go_simp
        all_goals (with_reducible rfl)
      conv => arg 8; simp only [Act.put, List.setIfInBounds_toArray, List.set_cons_zero, List.set_cons_succ]
      refine wpAnyH_done (by kernel_rfl) ?_ _
      refine NoPanic.normal ?_
      generalize hwf : World.setCell _ _ _ = wf
      have hrs : Blk wf (b + 1 + 1) 28 #[.int .i64 (most : Int), .slice (some ⟨gp, 0, none⟩) n c7, .slice AA7 (fl + 1) cc7] := by rw [← hwf]; exact ((HXQ.out.rs.set_ 0 (.int .i64 (most : Int))).set_ 1 (.slice (some ⟨gp, 0, none⟩) n c7)).set_ 2 (.slice AA7 (fl + 1) cc7)
      have oF : Only (fun k => k = b + 1 + 1) y7 wf := by rw [← hwf]; exact (((Only.refl (fun k => k = b + 1 + 1) y7).setCell_ (p := ⟨b + 1 + 1, 0, none⟩) (.inl rfl) _).setCell_ (p := ⟨b + 1 + 1, 1, none⟩) (.inl rfl) _).setCell_ (p := ⟨b + 1 + 1, 2, none⟩) (.inl rfl) _
      clear hwf hHeld q0 q1 q2 f0 f1' f2 x0 x2 k0
      go_wp2_with fail
      have hap : ∀ {base : Nat} {t : TypeId} {size n' : Nat} {v : Value} {xs : List Value}, y7.ownsRow base t size v n' xs → t ≠ 28 → ∀ g, v.ownBlock = some g → ¬ (g = b + 1 + 1) := fun hr n1 g hg hs => own_blk_ne hr HXQ.out.rs n1 (hs ▸ hg)
      have e1 : storeV (m.rem i) (.slice (some ⟨gp, 0, none⟩) n c7) (.slice AA7 (fl + 1) cc7) = .agg #[.int .i64 (most : Int), .slice (some ⟨gp, 0, none⟩) n c7, .slice AA7 (fl + 1) cc7] := by
        show Value.agg #[.int .i64 (m.most : Int), _, _] = _
        rw [HMO.out]
      have hBw : B ≤ w1.heap.size := by have := HBW.out; omega
      have hPW := owns_below HP5.out HB7_.out
      have hEW : ∀ r ∈ L, EntAt y7 B r.p.e r.rv r.pv := fun r hr => (HEN5.out r hr).below HB7_.out
      have hg9 : ((m.pl[i]?).getD plc0).uses = us := by rw [HPP.out.1]; exact HUS.out
      refine bodyPost_ret (results_cell_tmp rfl _ _ (b + 1 + 1) _ _ (0, 0) _ rfl hrs Try.underlying28 rfl (by kernel_rfl)) rfl ⟨.slice (some ⟨gp, 0, none⟩) n c7, .slice AA7 (fl + 1) cc7, L.set i (prowU us), ?_, ?_, ?_, ?_, ?_, ?_⟩
      · rw [e1]; rfl
      · rw [HBW.out]
        exact Only.below_trans (HB5.out.trans (HB7_.out.mono (by omega))) oF (by have := HB7_.out.size; omega) (fun k hk => by omega)
      · rw [List.map_set, HS1.out.eq]
        show _ = m.pl.set i ⟨false, ((m.pl[i]?).getD plc0).uses, ent0⟩
        rw [hg9]; rfl
      · rw [List.length_set, HN.out]
        exact owns_base2 (owns_only hPW oF (hap hPW (by decide))) hBw
      · intro r hr
        rcases List.mem_or_eq_of_mem_set hr with hr | rfl
        · exact (hEW r hr).only oF (hap (hEW r hr).raw (by decide)) (hap (hEW r hr).peers (by decide))
        · exact ent0_at _ _
      · show wf.ownsRow B 3 1 (.slice AA7 (fl + 1) cc7) (m.fr ++ [i]).length (natsV (m.fr ++ [i]))
        rw [List.length_append, HFL.out, natsV_append]
        exact owns_base2 (owns_only HE7.out oF (hap HE7.out (by decide))) hBw5
  · go_simp
    generalize hW : World.drew (World.alloc _ _) = y8
    have hb8 : Below w5.heap.size w5 y8 := by rw [← hW]; exact belowDrewR ((Below.refl _ _).alloc (Nat.le_refl _) _)
    have ho8 : y8.ownsRow w5.heap.size 3 1 (.slice (some ⟨w5.heap.size, 0, none⟩) 1 1) 1 [.int .i64 (i : Int)] := by rw [← hW]; exact (owns_base2 (lit1_int w5 (i : Int)) HBS.out.size).drew
    have HX8 := Lib.hid ho8
    have HB8_ := Lib.hid (HBS.out.trans (hb8.mono HBS.out.size))
    clear hW hb8 ho8 hHeld
    refine hK.out _ _ ⟨(HB8_.out.cell hb1l).trans x0, (HB8_.out.cell hb1l).trans x2, (HB8_.out.cell hb2l).trans k0⟩ (fun hHeld => ?_)
    clear hK K
    conv => arg 8; simp only [Act.put, List.setIfInBounds_toArray, List.set_cons_zero, List.set_cons_succ]
    refine wpAnyH_ready (rs := [3]) (by kernel_rfl) (by simp) ?_
    refine AllReadyH.cons (o := ⟨some 36, _, _, _, _, _⟩) rfl (fun K hK => ?_) AllReadyH.nil
    go_simp
    generalize hW : World.alloc _ _ = y9
    have hb9 : Below y8.heap.size y8 y9 := by rw [← hW]; exact ((Below.refl _ _).alloc (Nat.le_refl _) _)
    have ho9 : y9.ownsRow w5.heap.size 3 1 (.slice (some ⟨y8.heap.size, 0, none⟩) 0 0) 0 [] := by rw [← hW]; exact (owns_base2 (lit_ownsE y8 3) HB8_.out.size)
    have HE9 := Lib.hid ho9
    have HX9 := Lib.hid (owns_below HX8.out hb9)
    have hne9 : w5.heap.size ≠ y8.heap.size := Nat.ne_of_lt (HX8.out.lt _ rfl).2
    have HB9_ := Lib.hid (HB8_.out.trans (hb9.mono HB8_.out.size))
    clear hW hb9 ho9 hHeld
    refine hK.out _ _ ⟨(HB9_.out.cell hb1l).trans x0, (HB9_.out.cell hb1l).trans x2, (HB9_.out.cell hb2l).trans k0⟩ (fun hHeld => ?_)
    clear hK K
    conv => arg 8; simp only [Act.put, List.setIfInBounds_toArray, List.set_cons_zero, List.set_cons_succ]
    refine wpAnyH_ready (rs := [6]) (by kernel_rfl) (by simp) ?_
    refine AllReadyH.cons (o := ⟨some 39, _, _, _, _, _⟩) rfl (fun K hK => ?_) AllReadyH.nil
    refine step_append_any _ (by rfl) (.tmp 36) (.tmp 38) _ (by rfl) w5.heap.size 3 i1 _ 1 8 Try.underlying22 HI1.out HY0.out hy1 hy2 rfl (by omega) (.slice (some ⟨y8.heap.size, 0, none⟩) 0 0) 0 ([]) (by rfl) HE9.out _ Af fl cf (natsV m.fr) (by rfl) (HRF.out _ HB9_.out) (by unfold natsV; exact intsV_one _) (by unfold maxLen; omega) (by omega) HB9_.out.size ?_
    intro v10 y10 ho10 hg10 hat10
    rw [Nat.zero_add, List.nil_append] at ho10
    obtain ⟨AA10, cc10, rfl⟩ := own_form ho10
    have hq10 : Below w5.heap.size w5 y10 := HB9_.out.grown hg10 HB9_.out.size (fun g e => (HE9.out.lt g e).1)
    have HE10 := Lib.hid ho10
    have HX10_ := Lib.hid (owns_only HX9.out (Only.of_grown hg10) (fun g h1 h2 => by
      have e1 : w5.heap.size = g := Option.some.inj h1
      have e2 : y8.heap.size = g := Option.some.inj h2
      omega))
    have HB10_ := Lib.hid hq10
    clear ho10 hg10 hat10 hq10 hHeld
    refine hK.out _ _ ⟨(HB10_.out.cell hb1l).trans x0, (HB10_.out.cell hb1l).trans x2, (HB10_.out.cell hb2l).trans k0⟩ (fun hHeld => ?_)
    clear hK K
    conv => arg 8; simp only [Act.put, List.setIfInBounds_toArray, List.set_cons_zero, List.set_cons_succ]
    refine wpAnyH_ready (rs := [10]) (by kernel_rfl) (by simp) ?_
    refine AllReadyH.cons (o := ⟨some 43, _, _, _, _, _⟩) rfl (fun K hK => ?_) AllReadyH.nil
    refine step_append_any _ (by rfl) (.tmp 39) (.tmp 42) _ (by rfl) w5.heap.size 3 i1 _ 1 8 Try.underlying22 HI1.out HY0.out hy1 hy2 rfl (by omega) (.slice AA10 fl cc10) fl (natsV m.fr) (by rfl) HE10.out _ (some ⟨w5.heap.size, 0, none⟩) 1 1 ([.int .i64 (i : Int)]) (by rfl) (Reads.of_own HX10_.out) (by simp [Value.oneCell']) (by unfold maxLen; omega) (by omega) HB10_.out.size ?_
    intro v11 y11 ho11 hg11 hat11
    skip
    obtain ⟨AA11, cc11, rfl⟩ := own_form ho11
    have hq11 : Below w5.heap.size w5 y11 := HB10_.out.grown hg11 HB10_.out.size (fun g e => (HE10.out.lt g e).1)
    have HE11 := Lib.hid ho11
    have HB11_ := Lib.hid hq11
    clear ho11 hg11 hat11 hq11 hHeld
    refine hK.out _ _ ⟨(HB11_.out.cell hb1l).trans x0, (HB11_.out.cell hb1l).trans x2, (HB11_.out.cell hb2l).trans k0⟩ (fun hHeld => ?_)
    clear hK K
    conv => arg 8; simp only [Act.put, List.setIfInBounds_toArray, List.set_cons_zero, List.set_cons_succ]
    refine wpAnyH_take (i := 11) (oi := ⟨some 44, _, _, _, _, _⟩) (v := ?_) rfl (by kernel_rfl) (by kernel_rfl) (by kernel_rfl) (fun _ _ _ h => h) (Or.inl ⟨by kernel_rfl, ?_⟩) hHeld ?_
    rotate_left
    · intro w hSw
      obtain ⟨s0, s1, s2⟩ := hSw
      go_simp
      all_goals (with_reducible rfl)
    conv => arg 8; simp only [Act.put, List.setIfInBounds_toArray, List.set_cons_zero, List.set_cons_succ]
    have HXL := HXR5.out.below HB11_.out
    have q0 := HXL.rs.cell 0
    have q1 := HXL.rs.cell 1
    have q2 := HXL.rs.cell 2
    have f0 := HXL.rs.frozen 0
    have f1' := HXL.rs.frozen 1
    have f2 := HXL.rs.frozen 2
    simp at q0 q1 q2
    have HXQ := Lib.hid HXL
    clear HXL
    refine wpAnyH_ready (rs := [12]) (by kernel_rfl) (by simp) ?_
    refine AllReadyH.cons (o := ⟨none, _, _, _, _, _⟩) rfl (fun K hK => ?_) AllReadyH.nil
    go_simp
    refine hK.out _ _ ?_ (fun hHeld => ?_)
    · exact ⟨(cell3 _ _ _ _ _ _ (show b + 1 + 1 ≠ b by omega)).trans ((HB11_.out.cell hb1l).trans x0), (cell3 _ _ _ _ _ _ (show b + 1 + 1 ≠ b by omega)).trans ((HB11_.out.cell hb1l).trans x2), (cell3 _ _ _ _ _ _ (show b + 1 + 1 ≠ b + 1 by omega)).trans ((HB11_.out.cell hb2l).trans k0)⟩
    clear hK K
    conv => arg 8; simp only [Act.put, List.setIfInBounds_toArray, List.set_cons_zero, List.set_cons_succ]
    refine wpAnyH_take (i := 13) (oi := ⟨some 5, _, _, _, _, _⟩) (v := ?_) rfl (by kernel_rfl) (by kernel_rfl) (by kernel_rfl) (fun _ _ _ h => h) (Or.inl ⟨by kernel_rfl, ?_⟩) hHeld ?_
    rotate_left
    · intro w hSw
      obtain ⟨s0, s1, s2⟩ := hSw
      go_simp
      all_goals (with_reducible rfl)
    conv => arg 8; simp only [Act.put, List.setIfInBounds_toArray, List.set_cons_zero, List.set_cons_succ]
    refine wpAnyH_done (by kernel_rfl) ?_ _
    refine NoPanic.normal ?_
    generalize hwf : World.setCell _ _ _ = wf
    have hrs : Blk wf (b + 1 + 1) 28 #[.int .i64 (most : Int), .slice (some ⟨gp, 0, none⟩) n c7, .slice AA11 (fl + 1) cc11] := by rw [← hwf]; exact ((HXQ.out.rs.set_ 0 (.int .i64 (most : Int))).set_ 1 (.slice (some ⟨gp, 0, none⟩) n c7)).set_ 2 (.slice AA11 (fl + 1) cc11)
    have oF : Only (fun k => k = b + 1 + 1) y11 wf := by rw [← hwf]; exact (((Only.refl (fun k => k = b + 1 + 1) y11).setCell_ (p := ⟨b + 1 + 1, 0, none⟩) (.inl rfl) _).setCell_ (p := ⟨b + 1 + 1, 1, none⟩) (.inl rfl) _).setCell_ (p := ⟨b + 1 + 1, 2, none⟩) (.inl rfl) _
    clear hwf hHeld q0 q1 q2 f0 f1' f2 x0 x2 k0
    go_wp2_with fail
    have hap : ∀ {base : Nat} {t : TypeId} {size n' : Nat} {v : Value} {xs : List Value}, y11.ownsRow base t size v n' xs → t ≠ 28 → ∀ g, v.ownBlock = some g → ¬ (g = b + 1 + 1) := fun hr n1 g hg hs => own_blk_ne hr HXQ.out.rs n1 (hs ▸ hg)
    have e1 : storeV (m.rem i) (.slice (some ⟨gp, 0, none⟩) n c7) (.slice AA11 (fl + 1) cc11) = .agg #[.int .i64 (most : Int), .slice (some ⟨gp, 0, none⟩) n c7, .slice AA11 (fl + 1) cc11] := by
      show Value.agg #[.int .i64 (m.most : Int), _, _] = _
      rw [HMO.out]
    have hBw : B ≤ w1.heap.size := by have := HBW.out; omega
    have hPW := owns_below HP5.out HB11_.out
    have hEW : ∀ r ∈ L, EntAt y11 B r.p.e r.rv r.pv := fun r hr => (HEN5.out r hr).below HB11_.out
    have hg9 : ((m.pl[i]?).getD plc0).uses = us := by rw [HPP.out.1]; exact HUS.out
    refine bodyPost_ret (results_cell_tmp rfl _ _ (b + 1 + 1) _ _ (0, 0) _ rfl hrs Try.underlying28 rfl (by kernel_rfl)) rfl ⟨.slice (some ⟨gp, 0, none⟩) n c7, .slice AA11 (fl + 1) cc11, L.set i (prowU us), ?_, ?_, ?_, ?_, ?_, ?_⟩
    · rw [e1]; rfl
    · rw [HBW.out]
      exact Only.below_trans (HB5.out.trans (HB11_.out.mono (by omega))) oF (by have := HB11_.out.size; omega) (fun k hk => by omega)
    · rw [List.map_set, HS1.out.eq]
      show _ = m.pl.set i ⟨false, ((m.pl[i]?).getD plc0).uses, ent0⟩
      rw [hg9]; rfl
    · rw [List.length_set, HN.out]
      exact owns_base2 (owns_only hPW oF (hap hPW (by decide))) hBw
    · intro r hr
      rcases List.mem_or_eq_of_mem_set hr with hr | rfl
      · exact (hEW r hr).only oF (hap (hEW r hr).raw (by decide)) (hap (hEW r hr).peers (by decide))
      · exact ent0_at _ _
    · show wf.ownsRow B 3 1 (.slice AA11 (fl + 1) cc11) (m.fr ++ [i]).length (natsV (m.fr ++ [i]))
      rw [List.length_append, HFL.out, natsV_append]
      exact owns_base2 (owns_only HE11.out oF (hap HE11.out (by decide))) hBw5
end Go.Proofs.Ytnihkjhejjeepaa
