/- The reference's store of entries: AddEntry. -/
import Derived.Test.YtnihkjhejjeepaaSlH
import Derived.Test.YtnihkjhejjeepaaSlbSs
import Derived.Test.YtnihkjhejjeepaaMkEn2
namespace Go.Proofs.Ytnihkjhejjeepaa
open Go.RowKit
set_option linter.unusedVariables false
set_option linter.unusedSimpArgs false
open ShaW Sha

def prow0 : PRow := ⟨plc0, .slice none 0 0, .slice none 0 0⟩
def plLit : Array Value := #[.bool false, .int .i64 0, Value.int .u8 0, Value.int .u8 0, Value.int .u8 0, Value.int .u8 0, Value.int .u8 0, Value.int .u8 0, Value.int .u8 0, Value.int .u8 0, Value.int .u8 0, Value.int .u8 0, Value.int .u8 0, Value.int .u8 0, Value.int .u8 0, Value.int .u8 0, Value.int .u8 0, Value.int .u8 0, Value.int .u8 0, Value.int .u8 0, Value.int .u8 0, Value.int .u8 0, Value.int .u8 0, Value.int .u8 0, Value.int .u8 0, Value.int .u8 0, Value.int .u8 0, Value.int .u8 0, Value.int .u8 0, Value.int .u8 0, Value.int .u8 0, Value.int .u8 0, Value.int .u8 0, Value.int .u8 0, .slice none 0 0, .string { data := #[] }, .int .u64 0, .int .u64 0, .int .u64 0, .int .i64 0, .int .i64 0, .int .i64 0, .slice none 0 0]
theorem plLit_eq : plLit = prow0.cells.toArray := by kernel_rfl
theorem place_info : (Try.prog.info? 80).map (fun i => (i.zero, i.size, i.bytes)) = some (some (.agg plLit), 43, 160) := by kernel_rfl
theorem place_fill (ie : TypeInfo) (hs : ie.size = 43) : Instr.fill (fun i => some (i * ie.size, ie.size)) ((Array.range (1 * ie.size)).map ((Value.agg plLit).cells[· % (Value.agg plLit).cells.size]!)) [(0, .agg plLit)] = some prow0.cells.toArray := by
  rw [hs]
  kernel_rfl
theorem place_reads (W : World) : Reads (W.alloc (.cells prow0.cells.toArray 80)) (W.alloc (.cells prow0.cells.toArray 80)).heap.size 43 (some ⟨W.heap.size, 0, none⟩) 1 prow0.cells := by
  refine ⟨by rw [PRow.len], fun _ => ⟨⟨W.heap.size, 0, none⟩, rfl, by rw [World.size_alloc]; exact Nat.lt_succ_self _, fun j u hu => ?_⟩⟩
  rw [add_flat, Nat.zero_add, World.cell?_alloc_at _ _ _ _ rfl]
  exact List.getElem?_toArray.trans hu
theorem pempty_own (w : World) : (w.alloc (.cells #[] 80)).ownsRow w.heap.size 80 43 (.slice (some ⟨w.heap.size, 0, none⟩) 0 0) 0 [] :=
  ⟨rfl, .inr ⟨w.heap.size, 0, #[], rfl, Nat.le_refl _, heap_alloc_new _ _, Nat.le_refl _, Nat.zero_le _, rfl, rfl⟩⟩
theorem built_place (u : Int) (e : Ent) (rv pv : Value) : Try.prog.built 80 [(0, .bool true), (1, .int .i64 u), (2, .agg (entCells e rv pv).toArray)] = some (([Value.bool true, Value.int .i64 u] ++ entCells e rv pv).toArray) := by kernel_rfl
theorem results_cell2_tmp {P : Program} {fn : Func} {p p2 q : Tmp} {ty ty2 : TypeId} (h : fn.results = #[.cell p ty, .cell p2 ty2, .tmp q]) (tmps : Array Value) (w : World) (g : Nat) (t : TypeId) (cs : Array Value) (fr : Nat × Nat) (d : TypeDesc)
    (hp : tmps.getD p undef = .pointer (some ⟨g, 0, none⟩)) (hg : w.heap[g]? = some (.cells cs t fr))
    (hu : P.underlying ty = some d) (hd : (match d with | .struct _ | .array _ _ => true | _ => false) = true) (hi : (P.info? ty).map (·.size) = some cs.size)
    (g2 : Nat) (t2 : TypeId) (cs2 : Array Value) (fr2 : Nat × Nat) (d2 : TypeDesc)
    (hp2 : tmps.getD p2 undef = .pointer (some ⟨g2, 0, none⟩)) (hg2 : w.heap[g2]? = some (.cells cs2 t2 fr2))
    (hu2 : P.underlying ty2 = some d2) (hd2 : (match d2 with | .struct _ | .array _ _ => true | _ => false) = true) (hi2 : (P.info? ty2).map (·.size) = some cs2.size) :
    (results fn tmps).run P w = .ok (.tuple #[.agg cs, .agg cs2, tmps.getD q undef]) w := by
  have hp' : tmps[p]?.getD undef = .pointer (some ⟨g, 0, none⟩) := by simpa using hp
  have hp2' : tmps[p2]?.getD undef = .pointer (some ⟨g2, 0, none⟩) := by simpa using hp2
  simp [results, h, hp', hp2', asAddr, run_loadVar_row w g t ty cs fr d hg hu hd hi, run_loadVar_row w g2 t2 ty2 cs2 fr2 d2 hg2 hu2 hd2 hi2]
theorem Blk.drew_ {W : World} {g : Nat} {t : TypeId} {cs : Array Value} (h : Blk W g t cs) : Blk W.drew g t cs := h
theorem nodup_bd : ∀ {n : Nat} {l : List Nat}, l.Nodup → (∀ i ∈ l, i < n) → l.length ≤ n
  | 0, l, _, hb => by
    cases l with
    | nil => exact Nat.le_refl _
    | cons a l => exact absurd (hb a (List.mem_cons_self)) (by omega)
  | n + 1, l, h, hb => by
    by_cases hn : n ∈ l
    · have h1 := nodup_bd (h.erase n) (n := n) (fun i hi => by
        have h2 := (h.mem_erase_iff).1 hi
        have := hb i h2.2
        omega)
      rw [List.length_erase_of_mem hn] at h1
      omega
    · exact Nat.le_succ_of_le (nodup_bd h (fun i hi => by
        have := hb i hi
        have : i ≠ n := fun e => hn (e ▸ hi)
        omega))
theorem cdrew (W : World) (p : Addr) : W.drew.cell? p = W.cell? p := rfl
theorem cell3 (W : World) (g : Nat) (a b c : Value) (p : Addr) (h : g ≠ p.block) : (((W.setCell ⟨g, 0, none⟩ a).setCell ⟨g, 1, none⟩ b).setCell ⟨g, 2, none⟩ c).cell? p = W.cell? p :=
  (World.cell?_setCell_far _ _ _ _ h).trans ((World.cell?_setCell_far _ _ _ _ h).trans (World.cell?_setCell_far _ _ _ _ h))
theorem cell2 (W : World) (g : Nat) (a b : Value) (p : Addr) (h : g ≠ p.block) : ((W.setCell ⟨g, 0, none⟩ a).setCell ⟨g, 1, none⟩ b).cell? p = W.cell? p :=
  (World.cell?_setCell_far _ _ _ _ h).trans (World.cell?_setCell_far _ _ _ _ h)
/-- the variables of AddEntry -/
structure AddB (W : World) (b : Nat) (most : Nat) (pv fv : Value) (e : Ent) (rv pe : Value) : Prop where
  st : Blk W b 28 #[.int .i64 (most : Int), pv, fv]
  en : Blk W (b + 1) 38 (entCells e rv pe).toArray
  rs : Blk W (b + 1 + 1) 28 #[.int .i64 0, .slice none 0 0, .slice none 0 0]
  rh : Blk W (b + 1 + 1 + 1) 43 #[.int .i64 0, .int .i64 0]
theorem AddB.below {W W' : World} {b most : Nat} {pv fv : Value} {e : Ent} {rv pe : Value} (h : AddB W b most pv fv e rv pe) (hb : Below W.heap.size W W') : AddB W' b most pv fv e rv pe :=
  ⟨h.st.below hb h.st.lt, h.en.below hb h.en.lt, h.rs.below hb h.rs.lt, h.rh.below hb h.rh.lt⟩
theorem AddB.row {W W' : World} {b most : Nat} {pv fv : Value} {e : Ent} {rv pe : Value} (h : AddB W b most pv fv e rv pe) {g : Nat} {cs : Array Value} (hg : Blk W g 80 cs) (ho : Only (fun k => k = g) W W') : AddB W' b most pv fv e rv pe :=
  ⟨h.st.only ho (Blk.ne_ h.st hg (by decide)), h.en.only ho (Blk.ne_ h.en hg (by decide)), h.rs.only ho (Blk.ne_ h.rs hg (by decide)), h.rh.only ho (Blk.ne_ h.rh hg (by decide))⟩
def AddRFull (w : World) (m : RSt) (pv fv : Value) (ed : Ending) (w' : World) : Prop := ed = .returned (.tuple #[storeV m pv fv, hdl 0 0, .bool false]) ∧ Below w.heap.size w w'
def AddRPost (w : World) (B : Nat) (m : RSt) (e : Ent) (ed : Ending) (w' : World) : Prop := ∃ pv fv L, ed = .returned (.tuple #[storeV (m.add e) pv fv, hdl (m.slot : Int) (m.use : Int), .bool true]) ∧ Below w.heap.size w w' ∧ RefS w' B pv fv (m.add e) L
set_option maxRecDepth 100000 in
set_option maxHeartbeats 4000000 in
theorem raddr_full (w : World) (B : Nat) (pv fv : Value) (m : RSt) (L : List PRow) (k : Nat) (h : RefS w B pv fv m L) (hB : B ≤ w.heap.size) (hw : WfR m k) (hk : k ≤ 2000) (e : Ent) (rv pe : Value) (he : EntAt w B e rv pe) (hf : m.full = true) :
    Calls Try.prog 29 #[storeV m pv fv, entV e rv pe] w (AddRFull w m pv fv) := by
  obtain ⟨i0, hi0, hz0', hz1, hz2⟩ := info_parts place_info
  obtain ⟨i1, hi1, hy0, hy1, hy2⟩ := info_parts int_infoE
  have HI0 := Lib.hid hi0
  have HZ0 := Lib.hid hz0'
  have HI1 := Lib.hid hi1
  have HY0 := Lib.hid hy0
  clear hi0 hz0' hi1 hy0
  obtain ⟨A, c, rfl⟩ := own_form h.row
  obtain ⟨Af, cf, rfl⟩ := own_form h.fre
  obtain ⟨n, hn⟩ : ∃ n, L.length = n := ⟨_, rfl⟩
  have hml := h.len
  have hwl := hw.len
  rw [hn] at hml ⊢
  obtain ⟨most, hmo⟩ : ∃ x, m.most = x := ⟨_, rfl⟩
  obtain ⟨fl, hfl⟩ : ∃ x, m.fr.length = x := ⟨_, rfl⟩
  obtain ⟨cx, hcx⟩ : ∃ cx, (entCells e rv pe).toArray = cx := ⟨_, rfl⟩
  show Calls _ _ #[.agg #[.int .i64 (m.most : Int), _, _], .agg _] _ _
  rw [hmo, hfl, hcx]
  rw [hn, hfl] at h
  have HS := Lib.hid h
  have HW := Lib.hid hw
  have HN := Lib.hid hn
  have HE := Lib.hid he
  have HML := Lib.hid hml
  have HMO := Lib.hid hmo
  have HFL := Lib.hid hfl
  have HCX := Lib.hid hcx
  have hn2 : n ≤ 2000 := by omega
  obtain ⟨b, hbw⟩ : ∃ b, w.heap.size = b := ⟨_, rfl⟩
  have HBW := Lib.hid hbw
  clear h hw hn he hmo hfl hcx hml hwl
  have hc : m.most ≤ cntP m.pl := by simpa [RSt.full] using hf
  rw [HMO.out] at hc
  have HV : Hid (storeV m (.slice A n c) (.slice Af fl cf) = .agg #[.int .i64 (most : Int), .slice A n c, .slice Af fl cf]) := Lib.hid (by rw [← HMO.out])
  obtain ⟨ct, hct⟩ : ∃ x, cntP m.pl = x := ⟨_, rfl⟩
  go_enter Try.func29, Try.ntmps29
  go_upto_region 1 with (fail)
  generalize hwa : World.alloc (World.alloc (World.alloc (World.alloc w _) _) _) _ = wa
  have hb0 : Below w.heap.size w wa := by rw [← hwa]; exact ((((Below.refl _ _).alloc (Nat.le_refl _) _).alloc (by simp) _).alloc (by simp; omega) _).alloc (by simp; omega) _
  have hxa : AddB wa w.heap.size most (.slice A n c) (.slice Af fl cf) e rv pe := by
    rw [← hwa]
    refine ⟨(((Blk.new w _ _).alloc _).alloc _).alloc _, ?_, ?_, ?_⟩
    · rw [HCX.out]; exact ((blk_at (by simp)).alloc _).alloc _
    · exact (blk_at (by simp)).alloc _
    · exact blk_at (by simp)
  rw [hbw] at hb0 hxa
  have HB0 := Lib.hid hb0
  have HX0 := Lib.hid hxa
  have HS0 := Lib.hid (HS.out.below (by rw [HBW.out]; exact hb0))
  have x0 : wa.cell? ⟨b, 0, none⟩ = some (.int .i64 (most : Int)) := hxa.st.cell 0
  have x1 : wa.cell? ⟨b, 1, none⟩ = some (.slice A n c) := hxa.st.cell 1
  have x2 : wa.cell? ⟨b, 2, none⟩ = some (.slice Af fl cf) := hxa.st.cell 2
  have hz0 : b ≤ wa.heap.size := by rw [← HBW.out]; exact hb0.size
  have HCT : Hid (Calls Try.prog 20 #[.agg #[.int .i64 (most : Int), .slice A n c, .slice Af fl cf]] wa.drew fun e w' => e = .returned (.int .i64 (cntP m.pl : Int)) ∧ Below wa.heap.size wa w') := by
    have h1 := rcount_any wa.drew B (.slice A n c) (.slice Af fl cf) m L k (HS0.out.below (belowDrewR (Below.refl _ _))) HW.out hk
    have e1 : storeV m (.slice A n c) (.slice Af fl cf) = .agg #[.int .i64 (most : Int), .slice A n c, .slice Af fl cf] := by rw [← HMO.out]
    rw [e1] at h1
    exact h1.mono fun e w' hh => ⟨hh.1, (belowDrewR (Below.refl _ _)).trans hh.2⟩
  have hlb : b < wa.heap.size := hxa.st.lt
  clear hwa hb0 hxa hbw
  rw [hct] at hc HCT
  have t1 : (most : Int) ≤ (ct : Int) := by omega
  have t1' : decide ((most : Int) ≤ (ct : Int)) = true := by simp; omega
  clear hct hf
  refine wp_region_noPanic ?_
  refine wp_region_held_drew (S := fun W => W.cell? ⟨b, 0, none⟩ = some (.int .i64 (most : Int)) ∧ W.cell? ⟨b, 1, none⟩ = some (.slice A n c) ∧ W.cell? ⟨b, 2, none⟩ = some (.slice Af fl cf)) (by kernel_rfl) ⟨x0, x1, x2⟩ (fun hHeld => ?_)
  refine wpAnyH_take (i := 0) (oi := ⟨some 12, _, _, _, _, _⟩) (v := ?_) rfl (by kernel_rfl) (by kernel_rfl) (by kernel_rfl) (fun _ _ _ h => h) (Or.inl ⟨by kernel_rfl, ?_⟩) hHeld ?_
  rotate_left
  · intro w hSw
    obtain ⟨s0, s1, s2⟩ := hSw
    go_simp
    all_goals (with_reducible rfl)
  conv => arg 8; simp only [Act.put, List.setIfInBounds_toArray, List.set_cons_zero, List.set_cons_succ]
  refine wpAnyH_take (i := 2) (oi := ⟨some 14, _, _, _, _, _⟩) (v := ?_) rfl (by kernel_rfl) (by kernel_rfl) (by kernel_rfl) (fun _ _ _ h => h) (Or.inl ⟨by kernel_rfl, ?_⟩) hHeld ?_
  rotate_left
  · intro w hSw
    obtain ⟨s0, s1, s2⟩ := hSw
    go_simp
    all_goals (with_reducible rfl)
  conv => arg 8; simp only [Act.put, List.setIfInBounds_toArray, List.set_cons_zero, List.set_cons_succ]
  refine wpAnyH_take (i := 3) (oi := ⟨some 15, _, _, _, _, _⟩) (v := ?_) rfl (by kernel_rfl) (by kernel_rfl) (by kernel_rfl) (fun _ _ _ h => h) (Or.inl ⟨by kernel_rfl, ?_⟩) hHeld ?_
  rotate_left
  · intro w hSw
    obtain ⟨s0, s1, s2⟩ := hSw
    go_simp
    all_goals (with_reducible rfl)
  conv => arg 8; simp only [Act.put, List.setIfInBounds_toArray, List.set_cons_zero, List.set_cons_succ]
  refine wpAnyH_ready (rs := [1]) (by kernel_rfl) (by simp) ?_
  refine AllReadyH.cons (o := ⟨some 13, _, _, _, _, _⟩) rfl (fun K hK => ?_) AllReadyH.nil
  go_simp
  go_at_call 20
  (with_reducible refine (HCT.out).mono ?_)
  rintro e4 w1 ⟨rfl, hb4⟩
  have HB1 := Lib.hid hb4
  have hx4 := HX0.out.below hb4
  refine hK.out _ _ ⟨hx4.st.cell 0, hx4.st.cell 1, hx4.st.cell 2⟩ (fun hHeld => ?_)
  clear hx4
  clear hK K
  conv => arg 8; simp only [Act.put, List.setIfInBounds_toArray, List.set_cons_zero, List.set_cons_succ]
  refine wpAnyH_take (i := 4) (oi := ⟨some 16, _, _, _, _, _⟩) (v := ?_) rfl (by kernel_rfl) (by kernel_rfl) (by kernel_rfl) (fun _ _ _ h => h) (Or.inl ⟨by kernel_rfl, ?_⟩) hHeld ?_
  rotate_left
  · intro w hSw
    obtain ⟨s0, s1, s2⟩ := hSw
    go_simp
    all_goals (with_reducible rfl)
  conv => arg 8; simp only [Act.put, List.setIfInBounds_toArray, List.set_cons_zero, List.set_cons_succ]
  refine wpAnyH_done (by kernel_rfl) ?_ _
  refine NoPanic.normal ?_
  have HX1 := Lib.hid (HX0.out.below HB1.out)
  have HS1 := Lib.hid (HS0.out.below HB1.out)
  have HE1 := Lib.hid ((HE.out.below (by rw [HBW.out]; exact HB0.out)).below HB1.out)
  have HB1' := Lib.hid (HB0.out.trans (HB1.out.mono hz0))
  have hz1' : b ≤ w1.heap.size := Nat.le_trans hz0 HB1.out.size
  have x0 : w1.cell? ⟨b, 0, none⟩ = some (.int .i64 (most : Int)) := HX1.out.st.cell 0
  have x1 : w1.cell? ⟨b, 1, none⟩ = some (.slice A n c) := HX1.out.st.cell 1
  have x2 : w1.cell? ⟨b, 2, none⟩ = some (.slice Af fl cf) := HX1.out.st.cell 2
  clear hHeld HX0 HS0 HB1 HE HS HCT
  have y0 := HX1.out.rs.cell 0
  have y1 := HX1.out.rs.cell 1
  have y2 := HX1.out.rs.cell 2
  have y3 := HX1.out.rh.cell 0
  have y4 := HX1.out.rh.cell 1
  have f0 := HX1.out.rs.frozen 0
  have f1 := HX1.out.rs.frozen 1
  have f2 := HX1.out.rs.frozen 2
  have f3 := HX1.out.rh.frozen 0
  have f4 := HX1.out.rh.frozen 1
  simp at y0 y1 y2 y3 y4
  go_wp2_with fail
  have hrs : Blk _ (b + 1 + 1) 28 #[.int .i64 (most : Int), .slice A n c, .slice Af fl cf] := ((((HX1.out.rs.set_ 0 (.int .i64 (most : Int))).set_ 1 (.slice A n c)).set_ 2 (.slice Af fl cf)).far (p := ⟨b + 1 + 1 + 1, 0, none⟩) (by simp) (.int .i64 0)).far (p := ⟨b + 1 + 1 + 1, 1, none⟩) (by simp) (.int .i64 0)
  have hrh : Blk _ (b + 1 + 1 + 1) 43 #[.int .i64 0, .int .i64 0] := ((((HX1.out.rh.far (p := ⟨b + 1 + 1, 0, none⟩) (by simp) (.int .i64 (most : Int))).far (p := ⟨b + 1 + 1, 1, none⟩) (by simp) (.slice A n c)).far (p := ⟨b + 1 + 1, 2, none⟩) (by simp) (.slice Af fl cf)).set_ 0 (.int .i64 0)).set_ 1 (.int .i64 0)
  refine bodyPost_ret (results_cell2_tmp rfl _ _ (b + 1 + 1) _ _ (0, 0) _ rfl hrs Try.underlying28 rfl (by kernel_rfl) (b + 1 + 1 + 1) _ _ (0, 0) _ rfl hrh Try.underlying43 rfl (by kernel_rfl)) rfl ⟨?_, ?_⟩
  · rw [HV.out]; rfl
  · have hq : ∀ x, b ≤ b + x := fun x => by omega
    rw [HBW.out]
    exact ((((HB1'.out.setCell (p := ⟨b + 1 + 1, 0, none⟩) (hq 2) _).setCell (p := ⟨b + 1 + 1, 1, none⟩) (hq 2) _).setCell (p := ⟨b + 1 + 1, 2, none⟩) (hq 2) _).setCell (p := ⟨b + 1 + 1 + 1, 0, none⟩) (hq 3) _).setCell (p := ⟨b + 1 + 1 + 1, 1, none⟩) (hq 3) _
set_option maxRecDepth 100000 in
set_option maxHeartbeats 8000000 in
attribute [local go_sem ↓] wp_load_ent wp_store_place in
theorem raddr_ok (w : World) (B : Nat) (pv fv : Value) (m : RSt) (L : List PRow) (k : Nat) (h : RefS w B pv fv m L) (hB : B ≤ w.heap.size) (hw : WfR m k) (hk : k ≤ 2000) (e : Ent) (rv pe : Value) (he : EntAt w B e rv pe) (hf : m.full = false) :
    Calls Try.prog 29 #[storeV m pv fv, entV e rv pe] w (AddRPost w B m e) := by
  obtain ⟨p1, hslp, hslf, hslu, hslk⟩ := RSt.slot_at hw
  have hslk' := hslk
  obtain ⟨i0, hi0, hz0', hz1, hz2⟩ := info_parts place_info
  obtain ⟨i1, hi1, hy0, hy1, hy2⟩ := info_parts int_infoE
  have HI0 := Lib.hid hi0
  have HZ0 := Lib.hid hz0'
  have HI1 := Lib.hid hi1
  have HY0 := Lib.hid hy0
  clear hi0 hz0' hi1 hy0
  obtain ⟨A, c, rfl⟩ := own_form h.row
  obtain ⟨Af, cf, rfl⟩ := own_form h.fre
  obtain ⟨n, hn⟩ : ∃ n, L.length = n := ⟨_, rfl⟩
  have hml := h.len
  have hwl := hw.len
  rw [hn] at hml ⊢
  obtain ⟨most, hmo⟩ : ∃ x, m.most = x := ⟨_, rfl⟩
  obtain ⟨fl, hfl⟩ : ∃ x, m.fr.length = x := ⟨_, rfl⟩
  obtain ⟨cx, hcx⟩ : ∃ cx, (entCells e rv pe).toArray = cx := ⟨_, rfl⟩
  show Calls _ _ #[.agg #[.int .i64 (m.most : Int), _, _], .agg _] _ _
  rw [hmo, hfl, hcx]
  rw [hn, hfl] at h
  have HS := Lib.hid h
  have HW := Lib.hid hw
  have HN := Lib.hid hn
  have HE := Lib.hid he
  have HML := Lib.hid hml
  have HMO := Lib.hid hmo
  have HFL := Lib.hid hfl
  have HCX := Lib.hid hcx
  have hn2 : n ≤ 2000 := by omega
  obtain ⟨b, hbw⟩ : ∃ b, w.heap.size = b := ⟨_, rfl⟩
  have HBW := Lib.hid hbw
  clear h hw hn he hmo hfl hcx hml hwl
  have hc : ¬ m.most ≤ cntP m.pl := by simpa [RSt.full] using hf
  rw [HMO.out] at hc
  obtain ⟨ct, hct⟩ : ∃ x, cntP m.pl = x := ⟨_, rfl⟩
  obtain ⟨sl, hsl⟩ : ∃ x, m.slot = x := ⟨_, rfl⟩
  obtain ⟨us, hus⟩ : ∃ x, m.use = x := ⟨_, rfl⟩
  rw [hsl] at hslp
  rw [hus] at hslu
  have HSL := Lib.hid hsl
  have HUS := Lib.hid hus
  have HSP := Lib.hid (And.intro hslp (And.intro hslf hslu))
  have hus2 : us ≤ 2000 := by omega
  go_enter Try.func29, Try.ntmps29
  go_upto_region 1 with (fail)
  generalize hwa : World.alloc (World.alloc (World.alloc (World.alloc w _) _) _) _ = wa
  have hb0 : Below w.heap.size w wa := by rw [← hwa]; exact ((((Below.refl _ _).alloc (Nat.le_refl _) _).alloc (by simp) _).alloc (by simp; omega) _).alloc (by simp; omega) _
  have hxa : AddB wa w.heap.size most (.slice A n c) (.slice Af fl cf) e rv pe := by
    rw [← hwa]
    refine ⟨(((Blk.new w _ _).alloc _).alloc _).alloc _, ?_, ?_, ?_⟩
    · rw [HCX.out]; exact ((blk_at (by simp)).alloc _).alloc _
    · exact (blk_at (by simp)).alloc _
    · exact blk_at (by simp)
  rw [hbw] at hb0 hxa
  have HB0 := Lib.hid hb0
  have HX0 := Lib.hid hxa
  have HS0 := Lib.hid (HS.out.below (by rw [HBW.out]; exact hb0))
  have x0 : wa.cell? ⟨b, 0, none⟩ = some (.int .i64 (most : Int)) := hxa.st.cell 0
  have x1 : wa.cell? ⟨b, 1, none⟩ = some (.slice A n c) := hxa.st.cell 1
  have x2 : wa.cell? ⟨b, 2, none⟩ = some (.slice Af fl cf) := hxa.st.cell 2
  have hz0 : b ≤ wa.heap.size := by rw [← HBW.out]; exact hb0.size
  have HCT : Hid (Calls Try.prog 20 #[.agg #[.int .i64 (most : Int), .slice A n c, .slice Af fl cf]] wa.drew fun e w' => e = .returned (.int .i64 (cntP m.pl : Int)) ∧ Below wa.heap.size wa w') := by
    have h1 := rcount_any wa.drew B (.slice A n c) (.slice Af fl cf) m L k (HS0.out.below (belowDrewR (Below.refl _ _))) HW.out hk
    have e1 : storeV m (.slice A n c) (.slice Af fl cf) = .agg #[.int .i64 (most : Int), .slice A n c, .slice Af fl cf] := by rw [← HMO.out]
    rw [e1] at h1
    exact h1.mono fun e w' hh => ⟨hh.1, (belowDrewR (Below.refl _ _)).trans hh.2⟩
  have hlb : b < wa.heap.size := hxa.st.lt
  clear hwa hb0 hxa hbw
  rw [hct] at hc HCT
  have t1 : ¬ (most : Int) ≤ (ct : Int) := by omega
  have t1' : decide ((most : Int) ≤ (ct : Int)) = false := by simp; omega
  clear hct hf hslp hslf hslu hslk hslk' hsl hus
  refine wp_region_noPanic ?_
  refine wp_region_held_drew (S := fun W => W.cell? ⟨b, 0, none⟩ = some (.int .i64 (most : Int)) ∧ W.cell? ⟨b, 1, none⟩ = some (.slice A n c) ∧ W.cell? ⟨b, 2, none⟩ = some (.slice Af fl cf)) (by kernel_rfl) ⟨x0, x1, x2⟩ (fun hHeld => ?_)
  refine wpAnyH_take (i := 0) (oi := ⟨some 12, _, _, _, _, _⟩) (v := ?_) rfl (by kernel_rfl) (by kernel_rfl) (by kernel_rfl) (fun _ _ _ h => h) (Or.inl ⟨by kernel_rfl, ?_⟩) hHeld ?_
  rotate_left
  · intro w hSw
    obtain ⟨s0, s1, s2⟩ := hSw
    go_simp
    all_goals (with_reducible rfl)
  conv => arg 8; simp only [Act.put, List.setIfInBounds_toArray, List.set_cons_zero, List.set_cons_succ]
  refine wpAnyH_take (i := 2) (oi := ⟨some 14, _, _, _, _, _⟩) (v := ?_) rfl (by kernel_rfl) (by kernel_rfl) (by kernel_rfl) (fun _ _ _ h => h) (Or.inl ⟨by kernel_rfl, ?_⟩) hHeld ?_
  rotate_left
  · intro w hSw
    obtain ⟨s0, s1, s2⟩ := hSw
    go_simp
    all_goals (with_reducible rfl)
  conv => arg 8; simp only [Act.put, List.setIfInBounds_toArray, List.set_cons_zero, List.set_cons_succ]
  refine wpAnyH_take (i := 3) (oi := ⟨some 15, _, _, _, _, _⟩) (v := ?_) rfl (by kernel_rfl) (by kernel_rfl) (by kernel_rfl) (fun _ _ _ h => h) (Or.inl ⟨by kernel_rfl, ?_⟩) hHeld ?_
  rotate_left
  · intro w hSw
    obtain ⟨s0, s1, s2⟩ := hSw
    go_simp
    all_goals (with_reducible rfl)
  conv => arg 8; simp only [Act.put, List.setIfInBounds_toArray, List.set_cons_zero, List.set_cons_succ]
  refine wpAnyH_ready (rs := [1]) (by kernel_rfl) (by simp) ?_
  refine AllReadyH.cons (o := ⟨some 13, _, _, _, _, _⟩) rfl (fun K hK => ?_) AllReadyH.nil
  go_simp
  go_at_call 20
  (with_reducible refine (HCT.out).mono ?_)
  rintro e4 w1 ⟨rfl, hb4⟩
  have HB1 := Lib.hid hb4
  have hx4 := HX0.out.below hb4
  refine hK.out _ _ ⟨hx4.st.cell 0, hx4.st.cell 1, hx4.st.cell 2⟩ (fun hHeld => ?_)
  clear hx4
  clear hK K
  conv => arg 8; simp only [Act.put, List.setIfInBounds_toArray, List.set_cons_zero, List.set_cons_succ]
  refine wpAnyH_take (i := 4) (oi := ⟨some 16, _, _, _, _, _⟩) (v := ?_) rfl (by kernel_rfl) (by kernel_rfl) (by kernel_rfl) (fun _ _ _ h => h) (Or.inl ⟨by kernel_rfl, ?_⟩) hHeld ?_
  rotate_left
  · intro w hSw
    obtain ⟨s0, s1, s2⟩ := hSw
    go_simp
    all_goals (with_reducible rfl)
  conv => arg 8; simp only [Act.put, List.setIfInBounds_toArray, List.set_cons_zero, List.set_cons_succ]
  refine wpAnyH_done (by kernel_rfl) ?_ _
  refine NoPanic.normal ?_
  have HX1 := Lib.hid (HX0.out.below HB1.out)
  have HS1 := Lib.hid (HS0.out.below HB1.out)
  have HE1 := Lib.hid ((HE.out.below (by rw [HBW.out]; exact HB0.out)).below HB1.out)
  have HB1' := Lib.hid (HB0.out.trans (HB1.out.mono hz0))
  have hz1' : b ≤ w1.heap.size := Nat.le_trans hz0 HB1.out.size
  have x0 : w1.cell? ⟨b, 0, none⟩ = some (.int .i64 (most : Int)) := HX1.out.st.cell 0
  have x1 : w1.cell? ⟨b, 1, none⟩ = some (.slice A n c) := HX1.out.st.cell 1
  have x2 : w1.cell? ⟨b, 2, none⟩ = some (.slice Af fl cf) := HX1.out.st.cell 2
  clear hHeld HX0 HS0 HB1 HE HS HCT
  have HRD : Hid (∀ W, Below w1.heap.size w1 W → Reads W w1.heap.size 43 A n (placesV L)) := fun W hW => by
    have h1 := HS1.out.row
    rw [HN.out] at h1
    exact (Reads.of_own h1).below hW
  have hlr : (L.map PRow.p).length = n := by rw [List.length_map]; exact HN.out
  go_upto_region 3 with (fail)
  have HPO := Lib.hid (pempty_own w1)
  have HONE : Hid (∀ u ∈ placesV L, u.oneCell' = true) := fun u hu => by
    obtain ⟨r, hr, hu⟩ := List.mem_flatMap.1 hu
    exact PRow.one (own_oneCell (HS1.out.ent r hr).raw) (own_oneCell (HS1.out.ent r hr).peers) u hu
  have HRDA : Hid (Reads (w1.alloc (.cells #[] 80)) (w1.alloc (.cells #[] 80)).heap.size 43 A n (placesV L)) := Lib.hid ((HRD.out _ ((Below.refl _ _).alloc (Nat.le_refl _) _)).more (by simp))
  have hlb1 := HX1.out.st.lt
  go_upto_region 4 with (first
    | (at_builtin
       refine wpList_append_any _ rfl (.tmp 19) (.tmp 21) _ rfl w1.heap.size 80 i0 _ 43 160 Try.underlying26 HI0.out HZ0.out hz1 hz2 rfl (by omega) (.slice (some ⟨w1.heap.size, 0, none⟩) 0 0) 0 [] (by rfl)
         HPO.out _ A n c _ (by rfl) HRDA.out HONE.out (by unfold maxLen; omega) (by omega) (by simp) ?_
       intro v7 w2 ho2 hg2 hat2
       rw [Nat.zero_add, List.nil_append] at ho2
       obtain ⟨A7, c7, rfl⟩ := own_form ho2
       have hb2 : Below w1.heap.size w1 w2 := ((Below.refl _ _).alloc (Nat.le_refl _) _).grown hg2 (by simp) (fun g e => (HPO.out.lt g e).1)
       have HB2 := Lib.hid hb2
       have HO2 := Lib.hid ho2
       clear ho2 hg2 hat2 hb2))
  have HX2 := Lib.hid (HX1.out.below HB2.out)
  have x2 : w2.cell? ⟨b, 2, none⟩ = some (.slice Af fl cf) := HX2.out.st.cell 2
  clear x0 x1
  go_quiet (fail)
  generalize hwq : World.drewN w2 nq = w3
  have hbq : Below w2.heap.size w2 w3 := by rw [← hwq]; exact below_drewN (Below.refl _ w2) nq
  have HB3 := Lib.hid (HB2.out.trans (hbq.mono HB2.out.size))
  have HO3 := Lib.hid (owns_below HO2.out hbq)
  have hz3 := HB3.out.size
  have HS3 := Lib.hid (HS1.out.below HB3.out)
  have hfr3 := HS3.out.fre
  rw [HFL.out] at hfr3
  have HFR3 := Lib.hid hfr3
  clear hwq hbq x2 HO2 HB2 HX2 hfr3
  rcases Nat.eq_zero_or_pos fl with h0 | h0
  · have H0 := Lib.hid h0
    have t2 : ¬ (fl : Int) > 0 := by omega
    clear h0
    have hfe : m.fr = [] := List.eq_nil_of_length_eq_zero (by rw [HFL.out]; exact H0.out)
    have HFE := Lib.hid hfe
    clear hfe
    have HOA := Lib.hid (HO3.out.alloc (.cells prow0.cells.toArray 80))
    have HRP := Lib.hid (place_reads w3)
    go_upto_region 8 with (fail)
    go_upto_region 9 with (first
      | (refine wpList_buildSlice rfl 26 80 1 _ rfl prow0.cells.toArray i0 _ Try.underlying26 HI0.out HZ0.out (by rw [hz1]; omega) (by rw [hz1]; omega) (by simp only [List.map_toArray, List.map_cons, List.map_nil]; exact place_fill i0 hz1) ?_)
      | (at_builtin
         refine wpList_append_any _ rfl (.tmp 42) (.tmp 44) _ rfl w1.heap.size 80 i0 _ 43 160 Try.underlying26 HI0.out HZ0.out hz1 hz2 rfl (by omega) (.slice A7 n c7) n _ (by rfl)
           HOA.out _ _ 1 1 _ (by rfl) HRP.out (PRow.one rfl rfl) (by unfold maxLen; omega) (by omega) (by rw [World.size_alloc]; omega) ?_
         intro v8 w8 ho8 hg8 hat8
         rw [← placesV_one, ← placesV_append] at ho8
         obtain ⟨N, hN⟩ : ∃ N, n + 1 = N := ⟨_, rfl⟩
         rw [hN] at ho8
         obtain ⟨A8, c8, rfl⟩ := own_form ho8
         have hb8 : Below w3.heap.size w3 (w3.alloc (.cells prow0.cells.toArray 80)) := (Below.refl _ _).alloc (Nat.le_refl _) _
         have hq8 := (HB3.out.trans (hb8.mono hz3)).grown hg8 (by rw [World.size_alloc]; omega) (fun g e => (HOA.out.lt g e).1)
         have HB8 := Lib.hid hq8
         have HPL := Lib.hid ho8
         have HPN : Hid ((L ++ [prow0]).length = N) := Lib.hid (by rw [List.length_append, HN.out]; exact hN)
         have HFR : Hid (w8.ownsRow B 3 1 (.slice Af fl cf) fl (natsV m.fr.dropLast)) := by
           have h1 := (HS1.out.below hq8).fre
           rw [HFL.out] at h1
           have e1 : natsV m.fr.dropLast = natsV m.fr := by rw [HFE.out]; rfl
           rw [e1]
           exact h1
         have hNn : N ≤ 2001 := by omega
         clear ho8 hg8 hat8 hb8 hq8 hN))
    have HPE : Hid ((L ++ [prow0]).map PRow.p = m.pl1 ∧ ∀ r ∈ L ++ [prow0], EntAt w1 B r.p.e r.rv r.pv) := Lib.hid ⟨by rw [List.map_append, HS1.out.eq]; unfold RSt.pl1; rw [if_pos HFE.out]; rfl, fun r hr => by
      rcases List.mem_append.1 hr with hr | hr
      · exact HS1.out.ent r hr
      · rw [List.mem_singleton.1 hr]; exact ent0_at _ _⟩
    have HFN : Hid (fl = m.fr.dropLast.length) := Lib.hid (by rw [HFE.out]; exact H0.out)
    have hsn : (n : Int) = (sl : Int) := by
      have h1 := HSL.out
      unfold RSt.slot at h1
      rw [HFE.out] at h1
      have h2 : m.pl.length = sl := h1
      rw [← h2, ← HML.out]
    rw [hsn]
    have hmap := HPE.out.1
    obtain ⟨r1, hr1, hr1p⟩ : ∃ r, (L ++ [prow0])[sl]? = some r ∧ r.p = p1 := by
      have h1 := HSP.out.1
      rw [← hmap, List.getElem?_map] at h1
      cases h2 : (L ++ [prow0])[sl]? with
      | none => rw [h2] at h1; cases h1
      | some r => rw [h2] at h1; injection h1 with h1; exact ⟨r, rfl, h1⟩
    have hNl := HPN.out
    have hslN : sl < N := by rw [← hNl]; exact (List.getElem?_eq_some_iff.1 hr1).1
    obtain ⟨gp, cN, hv, hgb, _⟩ := HPL.out.form (by omega)
    injection hv with hv1 _ hv3
    subst hv1
    subst hv3
    obtain ⟨hcc, hc63⟩ := own_cap HPL.out
    have z1 : w8.cell? ⟨gp, sl * 43 + 1, none⟩ = some (.int .i64 (us : Int)) := by
      rw [HPL.out.cellAt (sl * 43 + 1) (by omega)]
      have h2 := flat_get _ _ PRow.len (L ++ [prow0]) hr1 (j := 1) (by omega)
      refine h2.trans ?_
      show some (Value.int .i64 (r1.p.uses : Int)) = _
      rw [hr1p, HSP.out.2.2]
    have t11 : (sl : Int) < ((N : Nat) : Int) := by omega
    have t12 : (0 : Int) ≤ sl := by omega
    have hgl := World.block_lt_of_cell? w8 _ z1
    have HXW := Lib.hid (HX1.out.below HB8.out)
    have HR1 := Lib.hid hr1
    clear hr1 hmap hr1p
    go_upto_region 10 with (fail)
    generalize hwb : World.alloc _ _ = w10
    have hb10 : Below w8.heap.size w8 w10 := by rw [← hwb]; exact (Below.refl _ _).alloc (Nat.le_refl _) _
    have hh10 : Blk w10 w8.heap.size 43 #[.int .i64 (sl : Int), .int .i64 (us : Int)] := by rw [← hwb]; exact heap_alloc_new _ _
    have HX10 := Lib.hid (HXW.out.below hb10)
    have HP10 := Lib.hid (owns_below HPL.out hb10)
    have HH10 := Lib.hid hh10
    have HF10 := Lib.hid (owns_below HFR.out hb10)
    have k1 : w10.cell? ⟨w8.heap.size, 1, none⟩ = some (.int .i64 (us : Int)) := hh10.cell 1
    have HB10 := Lib.hid (HB8.out.trans (hb10.mono HB8.out.size))
    have hz10 := hb10.size
    have qa : AggOk 41 w10 (.pointer (some ⟨b + 1, 0, none⟩)) := aggOk_mk (blk_rangeN HX10.out.en) (entCells_len _ _ _)
    have ld := loadN_eq (n := 41) (blk_rangeN HX10.out.en) (entCells_len _ _ _)
    have g1 : IntKind.i64.wrap ((us : Int) + 1) = (us : Int) + 1 := IntWalk.i64_in _ (by omega)
    obtain ⟨rn9, hrn9⟩ : ∃ r : PRow, (⟨⟨true, us + 1, e⟩, rv, pe⟩ : PRow) = r := ⟨_, rfl⟩
    have hcells : ([Value.bool true, Value.int .i64 ((us : Int) + 1)] ++ entCells e rv pe) = rn9.cells := by rw [← hrn9]; rfl
    have HBD := Lib.hid (built_place ((us : Int) + 1) e rv pe)
    rw [hcells] at HBD
    have he1 := HE1.out.below HB10.out
    have hone : ∀ u ∈ rn9.cells, u.oneCell' = true := by
      rw [← hcells]
      intro u hu
      rcases List.mem_append.1 hu with hu | hu
      · simp at hu
        rcases hu with rfl | rfl <;> rfl
      · exact he1.one u hu
    have qs : StoOk 43 w10 (.pointer (some ⟨gp, sl * 43, none⟩)) (.agg rn9.cells.toArray) := ⟨_, _, _, rfl, rfl, rn9.len, owns_there HP10.out sl hslN, hone⟩
    clear hone
    have HR9 := Lib.hid hrn9
    have HEW := Lib.hid he1
    clear hwb hb10 hh10 hcells hrn9 z1 he1 HXW
    go_upto_region 11 with (refine wpList_buildL rfl 80 _ rfl rn9.cells.toArray (by refine Eq.trans (congrArg (Program.built _ _) (?_ : _ = ([(0, .bool true), (1, .int .i64 ((us : Int) + 1)), (2, .agg (entCells e rv pe).toArray)] : List (Nat × Value)))) HBD.out; rfl) ?_)
    generalize hwb : storeMid _ _ _ = w11
    have he11 : w11 = w10.setCells gp (sl * 43) rn9.cells := by rw [← hwb]; exact storeMid_eq _ _ _ _
    have o11 : Only (fun k => k = gp) w10 w11 := by rw [he11]; exact setCells_only (fun k => k = gp) w10 gp _ _ (.inl rfl)
    have hp11 : w11.ownsRow w1.heap.size 80 43 (.slice (some ⟨gp, 0, none⟩) N c8) N (placesV ((L ++ [prow0]).set sl rn9)) := by
      have h1 := owns_set HP10.out sl hslN rn9.cells rn9.len
      rw [he11]
      have h2 := flat_set _ _ PRow.len (L ++ [prow0]) sl (by rw [hNl]; exact hslN) rn9
      unfold placesV
      rw [h2]
      exact h1
    obtain ⟨csP, hkP⟩ : ∃ cs, Blk w10 gp 80 cs := by
      rcases HP10.out.2 with ⟨h1, _⟩ | ⟨g', cap, cur, h1, _, h2, _⟩
      · cases h1
      · injection h1 with h1 _ _
        injection h1 with h1
        injection h1 with h1
        subst h1
        exact ⟨_, h2⟩
    have HX11 := Lib.hid (HX10.out.row hkP o11)
    have HH11 := Lib.hid (HH10.out.only o11 (Blk.ne_ HH10.out hkP (by decide)))
    have HE11 := Lib.hid (HEW.out.only o11 (fun g h1 h2 => own_blk_ne HEW.out.raw hkP (by decide) (h2 ▸ h1)) (fun g h1 h2 => own_blk_ne HEW.out.peers hkP (by decide) (h2 ▸ h1)))
    have HEN11 : Hid (∀ r ∈ (L ++ [prow0]), EntAt w11 B r.p.e r.rv r.pv) := fun r hr => by
      have h1 := (HPE.out.2 r hr).below HB10.out
      exact h1.only o11 (fun g h1' h2 => own_blk_ne h1.raw hkP (by decide) (h2 ▸ h1')) (fun g h1' h2 => own_blk_ne h1.peers hkP (by decide) (h2 ▸ h1'))
    have HF11 := Lib.hid (owns_only HF10.out o11 (fun g h1 h2 => own_blk_ne HF10.out hkP (by decide) (h2 ▸ h1)))
    have HB11 := Lib.hid (Only.below_trans (HB1'.out.trans (HB10.out.mono hz1')) o11 (by have := HB10.out.size; omega) (fun g hg => by omega))
    have HPX := Lib.hid hp11
    have x0 : w11.cell? ⟨b, 0, none⟩ = some (.int .i64 (most : Int)) := HX11.out.st.cell 0
    have y0 : w11.cell? ⟨w8.heap.size, 0, none⟩ = some (.int .i64 (sl : Int)) := HH11.out.cell 0
    have y1 : w11.cell? ⟨w8.heap.size, 1, none⟩ = some (.int .i64 (us : Int)) := HH11.out.cell 1
    have hlh := HH11.out.lt
    have nh1 : w8.heap.size ≠ b + 1 + 1 := by have := HX1.out.rs.lt; have := HB8.out.size; omega
    have nh2 : w8.heap.size ≠ b + 1 + 1 + 1 := by have := HX1.out.rh.lt; have := HB8.out.size; omega
    have q0 := HX11.out.rs.cell 0
    have q1 := HX11.out.rs.cell 1
    have q2 := HX11.out.rs.cell 2
    have q3 := HX11.out.rh.cell 0
    have q4 := HX11.out.rh.cell 1
    have f0 := HX11.out.rs.frozen 0
    have f1' := HX11.out.rs.frozen 1
    have f2 := HX11.out.rs.frozen 2
    have f3 := HX11.out.rh.frozen 0
    have f4 := HX11.out.rh.frozen 1
    simp at q0 q1 q2 q3 q4
    clear hwb he11 o11 hp11 qa ld qs HX10 HP10 HH10 HF10 k1
    refine wp_region_noPanic ?_
    refine wp_region_held_drew (S := fun W => W.cell? ⟨b, 0, none⟩ = some (.int .i64 (most : Int)) ∧ W.cell? ⟨w8.heap.size, 0, none⟩ = some (.int .i64 (sl : Int)) ∧ W.cell? ⟨w8.heap.size, 1, none⟩ = some (.int .i64 (us : Int))) (by kernel_rfl) ⟨x0, y0, y1⟩ (fun hHeld => ?_)
    refine wpAnyH_take (i := 0) (oi := ⟨some 61, _, _, _, _, _⟩) (v := ?_) rfl (by kernel_rfl) (by kernel_rfl) (by kernel_rfl) (fun _ _ _ h => h) (Or.inl ⟨by kernel_rfl, ?_⟩) hHeld ?_
    rotate_left
    · intro w hSw
      obtain ⟨s0, s1, s2⟩ := hSw
      go_simp
      all_goals (with_reducible rfl)
    conv => arg 8; simp only [Act.put, List.setIfInBounds_toArray, List.set_cons_zero, List.set_cons_succ]
    refine wpAnyH_take (i := 1) (oi := ⟨some 62, _, _, _, _, _⟩) (v := ?_) rfl (by kernel_rfl) (by kernel_rfl) (by kernel_rfl) (fun _ _ _ h => h) (Or.inl ⟨by kernel_rfl, ?_⟩) hHeld ?_
    rotate_left
    · intro w hSw
      obtain ⟨s0, s1, s2⟩ := hSw
      go_simp
      all_goals (with_reducible rfl)
    conv => arg 8; simp only [Act.put, List.setIfInBounds_toArray, List.set_cons_zero, List.set_cons_succ]
    refine wpAnyH_take (i := 2) (oi := ⟨some 63, _, _, _, _, _⟩) (v := ?_) rfl (by kernel_rfl) (by kernel_rfl) (by kernel_rfl) (fun _ _ _ h => h) (Or.inl ⟨by kernel_rfl, ?_⟩) hHeld ?_
    rotate_left
    · intro w hSw
      obtain ⟨s0, s1, s2⟩ := hSw
      go_simp
      all_goals (with_reducible rfl)
    conv => arg 8; simp only [Act.put, List.setIfInBounds_toArray, List.set_cons_zero, List.set_cons_succ]
    refine wpAnyH_take (i := 3) (oi := ⟨some 64, _, _, _, _, _⟩) (v := ?_) rfl (by kernel_rfl) (by kernel_rfl) (by kernel_rfl) (fun _ _ _ h => h) (Or.inl ⟨by kernel_rfl, ?_⟩) hHeld ?_
    rotate_left
    · intro w hSw
      obtain ⟨s0, s1, s2⟩ := hSw
      go_simp
      all_goals (with_reducible rfl)
    conv => arg 8; simp only [Act.put, List.setIfInBounds_toArray, List.set_cons_zero, List.set_cons_succ]
    refine wpAnyH_take (i := 4) (oi := ⟨some 65, _, _, _, _, _⟩) (v := ?_) rfl (by kernel_rfl) (by kernel_rfl) (by kernel_rfl) (fun _ _ _ h => h) (Or.inl ⟨by kernel_rfl, ?_⟩) hHeld ?_
    rotate_left
    · intro w hSw
      obtain ⟨s0, s1, s2⟩ := hSw
      go_simp
      all_goals (with_reducible rfl)
    conv => arg 8; simp only [Act.put, List.setIfInBounds_toArray, List.set_cons_zero, List.set_cons_succ]
    refine wpAnyH_take (i := 5) (oi := ⟨some 66, _, _, _, _, _⟩) (v := ?_) rfl (by kernel_rfl) (by kernel_rfl) (by kernel_rfl) (fun _ _ _ h => h) (Or.inl ⟨by kernel_rfl, ?_⟩) hHeld ?_
    rotate_left
    · intro w hSw
      obtain ⟨s0, s1, s2⟩ := hSw
      go_simp
      all_goals (with_reducible rfl)
    conv => arg 8; simp only [Act.put, List.setIfInBounds_toArray, List.set_cons_zero, List.set_cons_succ]
    refine wpAnyH_ready (rs := [6]) (by kernel_rfl) (by simp) ?_
    refine AllReadyH.cons (o := ⟨none, _, _, _, _, _⟩) rfl (fun K hK => ?_) AllReadyH.nil
    go_simp
    refine hK.out _ _ ?_ (fun hHeld => ?_)
    · exact ⟨(cdrew _ _).trans ((cell3 _ _ _ _ _ _ (show b + 1 + 1 ≠ b by omega)).trans x0), (cdrew _ _).trans ((cell3 _ _ _ _ _ _ (Ne.symm nh1)).trans y0), (cdrew _ _).trans ((cell3 _ _ _ _ _ _ (Ne.symm nh1)).trans y1)⟩
    clear hK K
    conv => arg 8; simp only [Act.put, List.setIfInBounds_toArray, List.set_cons_zero, List.set_cons_succ]
    refine wpAnyH_ready (rs := [7]) (by kernel_rfl) (by simp) ?_
    refine AllReadyH.cons (o := ⟨none, _, _, _, _, _⟩) rfl (fun K hK => ?_) AllReadyH.nil
    go_simp
    refine hK.out _ _ ?_ (fun hHeld => ?_)
    · exact ⟨(cdrew _ _).trans ((cell2 _ _ _ _ _ (show b + 1 + 1 + 1 ≠ b by omega)).trans ((cell3 _ _ _ _ _ _ (show b + 1 + 1 ≠ b by omega)).trans x0)), (cdrew _ _).trans ((cell2 _ _ _ _ _ (Ne.symm nh2)).trans ((cell3 _ _ _ _ _ _ (Ne.symm nh1)).trans y0)), (cdrew _ _).trans ((cell2 _ _ _ _ _ (Ne.symm nh2)).trans ((cell3 _ _ _ _ _ _ (Ne.symm nh1)).trans y1))⟩
    clear hK K
    conv => arg 8; simp only [Act.put, List.setIfInBounds_toArray, List.set_cons_zero, List.set_cons_succ]
    refine wpAnyH_take (i := 8) (oi := ⟨some 6, _, _, _, _, _⟩) (v := ?_) rfl (by kernel_rfl) (by kernel_rfl) (by kernel_rfl) (fun _ _ _ h => h) (Or.inl ⟨by kernel_rfl, ?_⟩) hHeld ?_
    rotate_left
    · intro w hSw
      obtain ⟨s0, s1, s2⟩ := hSw
      go_simp
      all_goals (with_reducible rfl)
    conv => arg 8; simp only [Act.put, List.setIfInBounds_toArray, List.set_cons_zero, List.set_cons_succ]
    refine wpAnyH_done (by kernel_rfl) ?_ _
    refine NoPanic.normal ?_
    generalize hwf : World.setCell _ _ _ = wf0
    have hrs : Blk wf0 (b + 1 + 1) 28 #[.int .i64 (most : Int), .slice (some ⟨gp, 0, none⟩) N c8, .slice Af fl cf] := by rw [← hwf]; exact ((((HX11.out.rs.set_ 0 (.int .i64 (most : Int))).set_ 1 (.slice (some ⟨gp, 0, none⟩) N c8)).set_ 2 (.slice Af fl cf)).far (p := ⟨b + 1 + 1 + 1, 0, none⟩) (by simp) (.int .i64 (sl : Int))).far (p := ⟨b + 1 + 1 + 1, 1, none⟩) (by simp) (.int .i64 (us : Int))
    have hrh : Blk wf0 (b + 1 + 1 + 1) 43 #[.int .i64 (sl : Int), .int .i64 (us : Int)] := by rw [← hwf]; exact ((((HX11.out.rh.far (p := ⟨b + 1 + 1, 0, none⟩) (by simp) (.int .i64 (most : Int))).far (p := ⟨b + 1 + 1, 1, none⟩) (by simp) (.slice (some ⟨gp, 0, none⟩) N c8)).far (p := ⟨b + 1 + 1, 2, none⟩) (by simp) (.slice Af fl cf)).set_ 0 (.int .i64 (sl : Int))).set_ 1 (.int .i64 (us : Int))
    have oF : Only (fun k => k = b + 1 + 1 ∨ k = b + 1 + 1 + 1) w11 wf0 := by rw [← hwf]; exact ((((((Only.refl (fun k => k = b + 1 + 1 ∨ k = b + 1 + 1 + 1) w11).setCell_ (p := ⟨b + 1 + 1, 0, none⟩) (.inl (.inl rfl)) _).setCell_ (p := ⟨b + 1 + 1, 1, none⟩) (.inl (.inl rfl)) _).setCell_ (p := ⟨b + 1 + 1, 2, none⟩) (.inl (.inl rfl)) _).setCell_ (p := ⟨b + 1 + 1 + 1, 0, none⟩) (.inl (.inr rfl)) _).setCell_ (p := ⟨b + 1 + 1 + 1, 1, none⟩) (.inl (.inr rfl)) _)
    have hrs := hrs.drew_
    have hrh := hrh.drew_
    have oF := oF.drew_
    clear hwf hHeld q0 q1 q2 q3 q4 f0 f1' f2 f3 f4 x0 y0 y1
    go_wp2_with fail
    have hap : ∀ {base : Nat} {t : TypeId} {size n' : Nat} {v : Value} {xs : List Value}, w11.ownsRow base t size v n' xs → t ≠ 28 → t ≠ 43 → ∀ g, v.ownBlock = some g → ¬ (g = b + 1 + 1 ∨ g = b + 1 + 1 + 1) := fun hr n1 n2 g hg hs => by
      rcases hs with hs | hs
      · exact own_blk_ne hr HX11.out.rs n1 (hs ▸ hg)
      · exact own_blk_ne hr HX11.out.rh n2 (hs ▸ hg)
    have e1 : storeV (m.add e) (.slice (some ⟨gp, 0, none⟩) N c8) (.slice Af fl cf) = .agg #[.int .i64 (most : Int), .slice (some ⟨gp, 0, none⟩) N c8, .slice Af fl cf] := by
      show Value.agg #[.int .i64 (m.most : Int), _, _] = _
      rw [HMO.out]
    have hBw : B ≤ w1.heap.size := by have := HBW.out; omega
    refine bodyPost_ret (results_cell2_tmp rfl _ _ (b + 1 + 1) _ _ (0, 0) _ rfl hrs Try.underlying28 rfl (by kernel_rfl) (b + 1 + 1 + 1) _ _ (0, 0) _ rfl hrh Try.underlying43 rfl (by kernel_rfl)) rfl ⟨.slice (some ⟨gp, 0, none⟩) N c8, .slice Af fl cf, (L ++ [prow0]).set sl rn9, ?_, ?_, ?_, ?_, ?_, ?_⟩
    · rw [e1, HSL.out, HUS.out]; rfl
    · rw [HBW.out]
      exact Only.below_trans HB11.out oF (by rw [← HBW.out]; have := HB11.out.size; omega) (fun k hk => by omega)
    · rw [List.map_set, HPE.out.1]
      show _ = m.pl1.set m.slot ⟨true, m.use + 1, e⟩
      rw [HSL.out, HUS.out, ← HR9.out]
    · rw [List.length_set, HPN.out]
      exact owns_base2 (owns_only HPX.out oF (hap HPX.out (by decide) (by decide))) hBw
    · intro r hr
      rcases List.mem_or_eq_of_mem_set hr with hr | rfl
      · exact (HEN11.out r hr).only oF (hap (HEN11.out r hr).raw (by decide) (by decide)) (hap (HEN11.out r hr).peers (by decide) (by decide))
      · rw [← HR9.out]
        exact HE11.out.only oF (hap HE11.out.raw (by decide) (by decide)) (hap HE11.out.peers (by decide) (by decide))
    · show wf0.drew.ownsRow B 3 1 (.slice Af fl cf) m.fr.dropLast.length (natsV m.fr.dropLast)
      rw [← HFN.out]
      exact owns_only HF11.out oF (hap HF11.out (by decide) (by decide))
  · obtain ⟨f1, hf1⟩ : ∃ f1, fl = f1 + 1 := ⟨fl - 1, by omega⟩
    have t2 : (fl : Int) > 0 := by omega
    have hfn : m.fr ≠ [] := fun e => by have h1 := HFL.out; rw [e] at h1; have h2 : 0 = fl := h1; omega
    obtain ⟨i9, hi9⟩ : ∃ i, m.fr.getLast? = some i := ⟨_, List.getLast?_eq_some_getLast hfn⟩
    have hi9s : i9 = sl := by
      have h1 := HSL.out
      unfold RSt.slot at h1
      rw [hi9] at h1
      exact h1
    rw [hi9s] at hi9
    have hsplit := getLast_split hi9
    have hdl : m.fr.dropLast.length = f1 := by rw [List.length_dropLast, HFL.out]; omega
    have hnv : natsV m.fr = natsV m.fr.dropLast ++ [.int .i64 (sl : Int)] := by
      have h1 : natsV m.fr = natsV (m.fr.dropLast ++ [sl]) := congrArg natsV hsplit
      rw [h1, natsV_append]; rfl
    have hfr3 := HFR3.out
    obtain ⟨gf, cg, hvf, _, _⟩ := hfr3.form (by omega)
    injection hvf with hvf1 _ hvf3
    subst hvf1
    subst hvf3
    obtain ⟨hcf, hcf63⟩ := own_cap hfr3
    have y0 : w3.cell? ⟨gf, f1, none⟩ = some (.int .i64 (sl : Int)) := by
      have h1 := hfr3.cellAt f1 (by omega)
      rw [h1, hnv, List.getElem?_append_right (by rw [natsV_len, hdl]; exact Nat.le_refl _), natsV_len, hdl, Nat.sub_self]
      rfl
    have hgl := World.block_lt_of_cell? w3 _ y0
    have HRF : Hid (∀ W, Below w3.heap.size w3 W → Reads W w3.heap.size 1 (some ⟨gf, 0, none⟩) f1 (natsV m.fr.dropLast)) := fun W hW => by
      have h1 := (Reads.of_own hfr3).below hW
      refine ⟨by rw [natsV_len, hdl, Nat.mul_one], fun hp => ?_⟩
      obtain ⟨ad, a1, a2, a3⟩ := h1.2 (by omega)
      refine ⟨ad, a1, a2, fun j u hu => a3 j u ?_⟩
      rw [hnv]
      exact (List.getElem?_append_left (List.getElem?_eq_some_iff.1 hu).1).trans hu
    have HCE : Hid (∀ W, Below w3.heap.size w3 W → W.cell? ⟨gf, f1, none⟩ = some (.int .i64 (sl : Int))) := fun W hW => (hW.cell (p := ⟨gf, f1, none⟩) hgl).trans y0
    have g1 : IntKind.i64.wrap ((fl : Int) - 1) = (f1 : Int) := by rw [IntWalk.i64_in _ (by omega)]; omega
    have t3 : (f1 : Int) < (fl : Int) := by omega
    have t4 : (0 : Int) ≤ f1 := by omega
    have t5 : (f1 : Int) ≤ (cf : Int) := by omega
    have HFP := Lib.hid (And.intro hfn (And.intro hi9 hdl))
    have hf1n : f1 ≤ 2000 := by
      have h1 : ∀ i ∈ m.fr, i < m.pl.length := fun i hi => by
        obtain ⟨p, hp, _⟩ := HW.out.free i hi
        exact (List.getElem?_eq_some_iff.1 hp).1
      have h2 := nodup_bd HW.out.nd h1
      have h3 := HML.out
      have h4 := HFL.out
      omega
    have HF1 := Lib.hid hf1
    clear hsplit hnv hfr3 hfn hi9 hi9s hdl h0 hf1
    go_upto_region 7 with (fail)
    refine wp_region_noPanic ?_
    refine wp_region_held_drew (S := fun W => W.cell? ⟨gf, f1, none⟩ = some (.int .i64 (sl : Int))) (by kernel_rfl) y0 (fun hHeld => ?_)
    refine wpAnyH_take (i := 0) (oi := ⟨some 31, _, _, _, _, _⟩) (v := ?_) rfl (by kernel_rfl) (by kernel_rfl) (by kernel_rfl) (fun _ _ _ h => h) (Or.inl ⟨by kernel_rfl, ?_⟩) hHeld ?_
    rotate_left
    · intro w hSw
      (try dsimp only at hSw)
      go_simp
      all_goals (with_reducible rfl)
    conv => arg 8; simp only [Act.put, List.setIfInBounds_toArray, List.set_cons_zero, List.set_cons_succ]
    refine wpAnyH_take (i := 1) (oi := ⟨some 32, _, _, _, _, _⟩) (v := ?_) rfl (by kernel_rfl) (by kernel_rfl) (by kernel_rfl) (fun _ _ _ h => h) (Or.inl ⟨by kernel_rfl, ?_⟩) hHeld ?_
    rotate_left
    · intro w hSw
      (try dsimp only at hSw)
      go_simp
      all_goals (with_reducible rfl)
    conv => arg 8; simp only [Act.put, List.setIfInBounds_toArray, List.set_cons_zero, List.set_cons_succ]
    refine wpAnyH_take (i := 2) (oi := ⟨some 33, _, _, _, _, _⟩) (v := ?_) rfl (by kernel_rfl) (by kernel_rfl) (by kernel_rfl) (fun _ _ _ h => h) (Or.inl ⟨by kernel_rfl, ?_⟩) hHeld ?_
    rotate_left
    · intro w hSw
      (try dsimp only at hSw)
      go_simp
      all_goals (with_reducible rfl)
    conv => arg 8; simp only [Act.put, List.setIfInBounds_toArray, List.set_cons_zero, List.set_cons_succ]
    refine wpAnyH_take (i := 3) (oi := ⟨some 34, _, _, _, _, _⟩) (v := ?_) rfl (by kernel_rfl) (by kernel_rfl) (by kernel_rfl) (fun _ _ _ h => h) (Or.inl ⟨by kernel_rfl, ?_⟩) hHeld ?_
    rotate_left
    · intro w hSw
      (try dsimp only at hSw)
      go_simp
      all_goals (with_reducible rfl)
    conv => arg 8; simp only [Act.put, List.setIfInBounds_toArray, List.set_cons_zero, List.set_cons_succ]
    refine wpAnyH_take (i := 4) (oi := ⟨some 35, _, _, _, _, _⟩) (v := ?_) rfl (by kernel_rfl) (by kernel_rfl) (by kernel_rfl) (fun _ _ _ h => h) (Or.inl ⟨by kernel_rfl, ?_⟩) hHeld ?_
    rotate_left
    · intro w hSw
      (try dsimp only at hSw)
      go_simp
      all_goals (with_reducible rfl)
    conv => arg 8; simp only [Act.put, List.setIfInBounds_toArray, List.set_cons_zero, List.set_cons_succ]
    refine wpAnyH_take (i := 6) (oi := ⟨some 37, _, _, _, _, _⟩) (v := ?_) rfl (by kernel_rfl) (by kernel_rfl) (by kernel_rfl) (fun _ _ _ h => h) (Or.inl ⟨by kernel_rfl, ?_⟩) hHeld ?_
    rotate_left
    · intro w hSw
      (try dsimp only at hSw)
      go_simp
      all_goals (with_reducible rfl)
    conv => arg 8; simp only [Act.put, List.setIfInBounds_toArray, List.set_cons_zero, List.set_cons_succ]
    refine wpAnyH_take (i := 7) (oi := ⟨some 38, _, _, _, _, _⟩) (v := ?_) rfl (by kernel_rfl) (by kernel_rfl) (by kernel_rfl) (fun _ _ _ h => h) (Or.inl ⟨by kernel_rfl, ?_⟩) hHeld ?_
    rotate_left
    · intro w hSw
      (try dsimp only at hSw)
      go_simp
      all_goals (with_reducible rfl)
    conv => arg 8; simp only [Act.put, List.setIfInBounds_toArray, List.set_cons_zero, List.set_cons_succ]
    refine wpAnyH_take (i := 8) (oi := ⟨some 39, _, _, _, _, _⟩) (v := ?_) rfl (by kernel_rfl) (by kernel_rfl) (by kernel_rfl) (fun _ _ _ h => h) (Or.inl ⟨by kernel_rfl, ?_⟩) hHeld ?_
    rotate_left
    · intro w hSw
      (try dsimp only at hSw)
      go_simp
      all_goals (with_reducible rfl)
    conv => arg 8; simp only [Act.put, List.setIfInBounds_toArray, List.set_cons_zero, List.set_cons_succ]
    refine wpAnyH_take (i := 9) (oi := ⟨some 40, _, _, _, _, _⟩) (v := ?_) rfl (by kernel_rfl) (by kernel_rfl) (by kernel_rfl) (fun _ _ _ h => h) (Or.inl ⟨by kernel_rfl, ?_⟩) hHeld ?_
    rotate_left
    · intro w hSw
      (try dsimp only at hSw)
      go_simp
      all_goals (with_reducible rfl)
    conv => arg 8; simp only [Act.put, List.setIfInBounds_toArray, List.set_cons_zero, List.set_cons_succ]
    refine wpAnyH_ready (rs := [5]) (by kernel_rfl) (by simp) ?_
    refine AllReadyH.cons (o := ⟨some 36, _, _, _, _, _⟩) rfl (fun K hK => ?_) AllReadyH.nil
    go_simp
    generalize hW : World.drew (World.alloc _ _) = w7
    have hb7 : Below w3.heap.size w3 w7 := by rw [← hW]; exact belowDrewR ((Below.refl _ _).alloc (Nat.le_refl _) _)
    have ho7 : w7.ownsRow w3.heap.size 3 1 (.slice (some ⟨w3.heap.size, 0, none⟩) 0 0) 0 [] := by rw [← hW]; exact (lit_ownsE w3 3).drew
    have HB7 := Lib.hid hb7
    have HO7 := Lib.hid ho7
    clear hW hb7 ho7 hHeld
    refine hK.out _ _ (HCE.out _ HB7.out) (fun hHeld => ?_)
    clear hK K
    conv => arg 8; simp only [Act.put, List.setIfInBounds_toArray, List.set_cons_zero, List.set_cons_succ]
    refine wpAnyH_ready (rs := [10]) (by kernel_rfl) (by simp) ?_
    refine AllReadyH.cons (o := ⟨some 41, _, _, _, _, _⟩) rfl (fun K hK => ?_) AllReadyH.nil
    refine step_append_any _ (by rfl) (.tmp 36) (.tmp 40) _ (by rfl) w3.heap.size 3 i1 _ 1 8 Try.underlying22 HI1.out HY0.out hy1 hy2 rfl (by omega) (.slice (some ⟨w3.heap.size, 0, none⟩) 0 0) 0 [] (by rfl) HO7.out _ (some ⟨gf, 0, none⟩) f1 _ (natsV m.fr.dropLast) (by rfl) (HRF.out _ HB7.out) (by unfold natsV; exact intsV_one _) (by unfold maxLen; omega) (by omega) HB7.out.size ?_
    intro v8 w8 ho8 hg8 hat8
    rw [Nat.zero_add, List.nil_append] at ho8
    obtain ⟨A9, c9, rfl⟩ := own_form ho8
    have hq8 : Below w3.heap.size w3 w8 := HB7.out.grown hg8 HB7.out.size (fun g e => (HO7.out.lt g e).1)
    have HQ8 := Lib.hid hq8
    have HO8 := Lib.hid ho8
    clear ho8 hg8 hat8 hq8 hHeld
    refine hK.out _ _ (HCE.out _ HQ8.out) (fun hHeld => ?_)
    clear hK K
    conv => arg 8; simp only [Act.put, List.setIfInBounds_toArray, List.set_cons_zero, List.set_cons_succ]
    refine wpAnyH_take (i := 11) (oi := ⟨some 8, _, _, _, _, _⟩) (v := ?_) rfl (by kernel_rfl) (by kernel_rfl) (by kernel_rfl) (fun _ _ _ h => h) (Or.inl ⟨by kernel_rfl, ?_⟩) hHeld ?_
    rotate_left
    · intro w hSw
      (try dsimp only at hSw)
      go_simp
      all_goals (with_reducible rfl)
    conv => arg 8; simp only [Act.put, List.setIfInBounds_toArray, List.set_cons_zero, List.set_cons_succ]
    refine wpAnyH_take (i := 12) (oi := ⟨some 9, _, _, _, _, _⟩) (v := ?_) rfl (by kernel_rfl) (by kernel_rfl) (by kernel_rfl) (fun _ _ _ h => h) (Or.inl ⟨by kernel_rfl, ?_⟩) hHeld ?_
    rotate_left
    · intro w hSw
      (try dsimp only at hSw)
      go_simp
      all_goals (with_reducible rfl)
    conv => arg 8; simp only [Act.put, List.setIfInBounds_toArray, List.set_cons_zero, List.set_cons_succ]
    refine wpAnyH_done (by kernel_rfl) ?_ _
    refine NoPanic.normal ?_
    clear hHeld y0
    have HB8 := Lib.hid (HB3.out.trans (HQ8.out.mono hz3))
    have HPL := Lib.hid (owns_below HO3.out HQ8.out)
    have HPN : Hid (L.length = n) := HN
    have hBw3 : B ≤ w3.heap.size := by have := HBW.out; omega
    have HFR := Lib.hid (owns_base2 HO8.out hBw3)
    have HFN : Hid (f1 = m.fr.dropLast.length) := Lib.hid HFP.out.2.2.symm
    have HPE : Hid (L.map PRow.p = m.pl1 ∧ ∀ r ∈ L, EntAt w1 B r.p.e r.rv r.pv) := Lib.hid ⟨by rw [HS1.out.eq]; unfold RSt.pl1; rw [if_neg HFP.out.1], HS1.out.ent⟩
    have hNn : n ≤ 2001 := by omega
    have hmap := HPE.out.1
    obtain ⟨r1, hr1, hr1p⟩ : ∃ r, (L)[sl]? = some r ∧ r.p = p1 := by
      have h1 := HSP.out.1
      rw [← hmap, List.getElem?_map] at h1
      cases h2 : (L)[sl]? with
      | none => rw [h2] at h1; cases h1
      | some r => rw [h2] at h1; injection h1 with h1; exact ⟨r, rfl, h1⟩
    have hNl := HPN.out
    have hslN : sl < n := by rw [← hNl]; exact (List.getElem?_eq_some_iff.1 hr1).1
    obtain ⟨gp, cN, hv, hgb, _⟩ := HPL.out.form (by omega)
    injection hv with hv1 _ hv3
    subst hv1
    subst hv3
    obtain ⟨hcc, hc63⟩ := own_cap HPL.out
    have z1 : w8.cell? ⟨gp, sl * 43 + 1, none⟩ = some (.int .i64 (us : Int)) := by
      rw [HPL.out.cellAt (sl * 43 + 1) (by omega)]
      have h2 := flat_get _ _ PRow.len (L) hr1 (j := 1) (by omega)
      refine h2.trans ?_
      show some (Value.int .i64 (r1.p.uses : Int)) = _
      rw [hr1p, HSP.out.2.2]
    have t11 : (sl : Int) < ((n : Nat) : Int) := by omega
    have t12 : (0 : Int) ≤ sl := by omega
    have hgl := World.block_lt_of_cell? w8 _ z1
    have HXW := Lib.hid (HX1.out.below HB8.out)
    have HR1 := Lib.hid hr1
    clear hr1 hmap hr1p
    go_upto_region 10 with (fail)
    generalize hwb : World.alloc _ _ = w10
    have hb10 : Below w8.heap.size w8 w10 := by rw [← hwb]; exact (Below.refl _ _).alloc (Nat.le_refl _) _
    have hh10 : Blk w10 w8.heap.size 43 #[.int .i64 (sl : Int), .int .i64 (us : Int)] := by rw [← hwb]; exact heap_alloc_new _ _
    have HX10 := Lib.hid (HXW.out.below hb10)
    have HP10 := Lib.hid (owns_below HPL.out hb10)
    have HH10 := Lib.hid hh10
    have HF10 := Lib.hid (owns_below HFR.out hb10)
    have k1 : w10.cell? ⟨w8.heap.size, 1, none⟩ = some (.int .i64 (us : Int)) := hh10.cell 1
    have HB10 := Lib.hid (HB8.out.trans (hb10.mono HB8.out.size))
    have hz10 := hb10.size
    have qa : AggOk 41 w10 (.pointer (some ⟨b + 1, 0, none⟩)) := aggOk_mk (blk_rangeN HX10.out.en) (entCells_len _ _ _)
    have ld := loadN_eq (n := 41) (blk_rangeN HX10.out.en) (entCells_len _ _ _)
    have g1 : IntKind.i64.wrap ((us : Int) + 1) = (us : Int) + 1 := IntWalk.i64_in _ (by omega)
    obtain ⟨rn9, hrn9⟩ : ∃ r : PRow, (⟨⟨true, us + 1, e⟩, rv, pe⟩ : PRow) = r := ⟨_, rfl⟩
    have hcells : ([Value.bool true, Value.int .i64 ((us : Int) + 1)] ++ entCells e rv pe) = rn9.cells := by rw [← hrn9]; rfl
    have HBD := Lib.hid (built_place ((us : Int) + 1) e rv pe)
    rw [hcells] at HBD
    have he1 := HE1.out.below HB10.out
    have hone : ∀ u ∈ rn9.cells, u.oneCell' = true := by
      rw [← hcells]
      intro u hu
      rcases List.mem_append.1 hu with hu | hu
      · simp at hu
        rcases hu with rfl | rfl <;> rfl
      · exact he1.one u hu
    have qs : StoOk 43 w10 (.pointer (some ⟨gp, sl * 43, none⟩)) (.agg rn9.cells.toArray) := ⟨_, _, _, rfl, rfl, rn9.len, owns_there HP10.out sl hslN, hone⟩
    clear hone
    have HR9 := Lib.hid hrn9
    have HEW := Lib.hid he1
    clear hwb hb10 hh10 hcells hrn9 z1 he1 HXW
    go_upto_region 11 with (refine wpList_buildL rfl 80 _ rfl rn9.cells.toArray (by refine Eq.trans (congrArg (Program.built _ _) (?_ : _ = ([(0, .bool true), (1, .int .i64 ((us : Int) + 1)), (2, .agg (entCells e rv pe).toArray)] : List (Nat × Value)))) HBD.out; rfl) ?_)
    generalize hwb : storeMid _ _ _ = w11
    have he11 : w11 = w10.setCells gp (sl * 43) rn9.cells := by rw [← hwb]; exact storeMid_eq _ _ _ _
    have o11 : Only (fun k => k = gp) w10 w11 := by rw [he11]; exact setCells_only (fun k => k = gp) w10 gp _ _ (.inl rfl)
    have hp11 : w11.ownsRow w1.heap.size 80 43 (.slice (some ⟨gp, 0, none⟩) n c7) n (placesV ((L).set sl rn9)) := by
      have h1 := owns_set HP10.out sl hslN rn9.cells rn9.len
      rw [he11]
      have h2 := flat_set _ _ PRow.len (L) sl (by rw [hNl]; exact hslN) rn9
      unfold placesV
      rw [h2]
      exact h1
    obtain ⟨csP, hkP⟩ : ∃ cs, Blk w10 gp 80 cs := by
      rcases HP10.out.2 with ⟨h1, _⟩ | ⟨g', cap, cur, h1, _, h2, _⟩
      · cases h1
      · injection h1 with h1 _ _
        injection h1 with h1
        injection h1 with h1
        subst h1
        exact ⟨_, h2⟩
    have HX11 := Lib.hid (HX10.out.row hkP o11)
    have HH11 := Lib.hid (HH10.out.only o11 (Blk.ne_ HH10.out hkP (by decide)))
    have HE11 := Lib.hid (HEW.out.only o11 (fun g h1 h2 => own_blk_ne HEW.out.raw hkP (by decide) (h2 ▸ h1)) (fun g h1 h2 => own_blk_ne HEW.out.peers hkP (by decide) (h2 ▸ h1)))
    have HEN11 : Hid (∀ r ∈ (L), EntAt w11 B r.p.e r.rv r.pv) := fun r hr => by
      have h1 := (HPE.out.2 r hr).below HB10.out
      exact h1.only o11 (fun g h1' h2 => own_blk_ne h1.raw hkP (by decide) (h2 ▸ h1')) (fun g h1' h2 => own_blk_ne h1.peers hkP (by decide) (h2 ▸ h1'))
    have HF11 := Lib.hid (owns_only HF10.out o11 (fun g h1 h2 => own_blk_ne HF10.out hkP (by decide) (h2 ▸ h1)))
    have HB11 := Lib.hid (Only.below_trans (HB1'.out.trans (HB10.out.mono hz1')) o11 (by have := HB10.out.size; omega) (fun g hg => by omega))
    have HPX := Lib.hid hp11
    have x0 : w11.cell? ⟨b, 0, none⟩ = some (.int .i64 (most : Int)) := HX11.out.st.cell 0
    have y0 : w11.cell? ⟨w8.heap.size, 0, none⟩ = some (.int .i64 (sl : Int)) := HH11.out.cell 0
    have y1 : w11.cell? ⟨w8.heap.size, 1, none⟩ = some (.int .i64 (us : Int)) := HH11.out.cell 1
    have hlh := HH11.out.lt
    have nh1 : w8.heap.size ≠ b + 1 + 1 := by have := HX1.out.rs.lt; have := HB8.out.size; omega
    have nh2 : w8.heap.size ≠ b + 1 + 1 + 1 := by have := HX1.out.rh.lt; have := HB8.out.size; omega
    have q0 := HX11.out.rs.cell 0
    have q1 := HX11.out.rs.cell 1
    have q2 := HX11.out.rs.cell 2
    have q3 := HX11.out.rh.cell 0
    have q4 := HX11.out.rh.cell 1
    have f0 := HX11.out.rs.frozen 0
    have f1' := HX11.out.rs.frozen 1
    have f2 := HX11.out.rs.frozen 2
    have f3 := HX11.out.rh.frozen 0
    have f4 := HX11.out.rh.frozen 1
    simp at q0 q1 q2 q3 q4
    clear hwb he11 o11 hp11 qa ld qs HX10 HP10 HH10 HF10 k1
    refine wp_region_noPanic ?_
    refine wp_region_held_drew (S := fun W => W.cell? ⟨b, 0, none⟩ = some (.int .i64 (most : Int)) ∧ W.cell? ⟨w8.heap.size, 0, none⟩ = some (.int .i64 (sl : Int)) ∧ W.cell? ⟨w8.heap.size, 1, none⟩ = some (.int .i64 (us : Int))) (by kernel_rfl) ⟨x0, y0, y1⟩ (fun hHeld => ?_)
    refine wpAnyH_take (i := 0) (oi := ⟨some 61, _, _, _, _, _⟩) (v := ?_) rfl (by kernel_rfl) (by kernel_rfl) (by kernel_rfl) (fun _ _ _ h => h) (Or.inl ⟨by kernel_rfl, ?_⟩) hHeld ?_
    rotate_left
    · intro w hSw
      obtain ⟨s0, s1, s2⟩ := hSw
      go_simp
      all_goals (with_reducible rfl)
    conv => arg 8; simp only [Act.put, List.setIfInBounds_toArray, List.set_cons_zero, List.set_cons_succ]
    refine wpAnyH_take (i := 1) (oi := ⟨some 62, _, _, _, _, _⟩) (v := ?_) rfl (by kernel_rfl) (by kernel_rfl) (by kernel_rfl) (fun _ _ _ h => h) (Or.inl ⟨by kernel_rfl, ?_⟩) hHeld ?_
    rotate_left
    · intro w hSw
      obtain ⟨s0, s1, s2⟩ := hSw
      go_simp
      all_goals (with_reducible rfl)
    conv => arg 8; simp only [Act.put, List.setIfInBounds_toArray, List.set_cons_zero, List.set_cons_succ]
    refine wpAnyH_take (i := 2) (oi := ⟨some 63, _, _, _, _, _⟩) (v := ?_) rfl (by kernel_rfl) (by kernel_rfl) (by kernel_rfl) (fun _ _ _ h => h) (Or.inl ⟨by kernel_rfl, ?_⟩) hHeld ?_
    rotate_left
    · intro w hSw
      obtain ⟨s0, s1, s2⟩ := hSw
      go_simp
      all_goals (with_reducible rfl)
    conv => arg 8; simp only [Act.put, List.setIfInBounds_toArray, List.set_cons_zero, List.set_cons_succ]
    refine wpAnyH_take (i := 3) (oi := ⟨some 64, _, _, _, _, _⟩) (v := ?_) rfl (by kernel_rfl) (by kernel_rfl) (by kernel_rfl) (fun _ _ _ h => h) (Or.inl ⟨by kernel_rfl, ?_⟩) hHeld ?_
    rotate_left
    · intro w hSw
      obtain ⟨s0, s1, s2⟩ := hSw
      go_simp
      all_goals (with_reducible rfl)
    conv => arg 8; simp only [Act.put, List.setIfInBounds_toArray, List.set_cons_zero, List.set_cons_succ]
    refine wpAnyH_take (i := 4) (oi := ⟨some 65, _, _, _, _, _⟩) (v := ?_) rfl (by kernel_rfl) (by kernel_rfl) (by kernel_rfl) (fun _ _ _ h => h) (Or.inl ⟨by kernel_rfl, ?_⟩) hHeld ?_
    rotate_left
    · intro w hSw
      obtain ⟨s0, s1, s2⟩ := hSw
      go_simp
      all_goals (with_reducible rfl)
    conv => arg 8; simp only [Act.put, List.setIfInBounds_toArray, List.set_cons_zero, List.set_cons_succ]
    refine wpAnyH_take (i := 5) (oi := ⟨some 66, _, _, _, _, _⟩) (v := ?_) rfl (by kernel_rfl) (by kernel_rfl) (by kernel_rfl) (fun _ _ _ h => h) (Or.inl ⟨by kernel_rfl, ?_⟩) hHeld ?_
    rotate_left
    · intro w hSw
      obtain ⟨s0, s1, s2⟩ := hSw
      go_simp
      all_goals (with_reducible rfl)
    conv => arg 8; simp only [Act.put, List.setIfInBounds_toArray, List.set_cons_zero, List.set_cons_succ]
    refine wpAnyH_ready (rs := [6]) (by kernel_rfl) (by simp) ?_
    refine AllReadyH.cons (o := ⟨none, _, _, _, _, _⟩) rfl (fun K hK => ?_) AllReadyH.nil
    go_simp
    refine hK.out _ _ ?_ (fun hHeld => ?_)
    · exact ⟨(cdrew _ _).trans ((cell3 _ _ _ _ _ _ (show b + 1 + 1 ≠ b by omega)).trans x0), (cdrew _ _).trans ((cell3 _ _ _ _ _ _ (Ne.symm nh1)).trans y0), (cdrew _ _).trans ((cell3 _ _ _ _ _ _ (Ne.symm nh1)).trans y1)⟩
    clear hK K
    conv => arg 8; simp only [Act.put, List.setIfInBounds_toArray, List.set_cons_zero, List.set_cons_succ]
    refine wpAnyH_ready (rs := [7]) (by kernel_rfl) (by simp) ?_
    refine AllReadyH.cons (o := ⟨none, _, _, _, _, _⟩) rfl (fun K hK => ?_) AllReadyH.nil
    go_simp
    refine hK.out _ _ ?_ (fun hHeld => ?_)
    · exact ⟨(cdrew _ _).trans ((cell2 _ _ _ _ _ (show b + 1 + 1 + 1 ≠ b by omega)).trans ((cell3 _ _ _ _ _ _ (show b + 1 + 1 ≠ b by omega)).trans x0)), (cdrew _ _).trans ((cell2 _ _ _ _ _ (Ne.symm nh2)).trans ((cell3 _ _ _ _ _ _ (Ne.symm nh1)).trans y0)), (cdrew _ _).trans ((cell2 _ _ _ _ _ (Ne.symm nh2)).trans ((cell3 _ _ _ _ _ _ (Ne.symm nh1)).trans y1))⟩
    clear hK K
    conv => arg 8; simp only [Act.put, List.setIfInBounds_toArray, List.set_cons_zero, List.set_cons_succ]
    refine wpAnyH_take (i := 8) (oi := ⟨some 6, _, _, _, _, _⟩) (v := ?_) rfl (by kernel_rfl) (by kernel_rfl) (by kernel_rfl) (fun _ _ _ h => h) (Or.inl ⟨by kernel_rfl, ?_⟩) hHeld ?_
    rotate_left
    · intro w hSw
      obtain ⟨s0, s1, s2⟩ := hSw
      go_simp
      all_goals (with_reducible rfl)
    conv => arg 8; simp only [Act.put, List.setIfInBounds_toArray, List.set_cons_zero, List.set_cons_succ]
    refine wpAnyH_done (by kernel_rfl) ?_ _
    refine NoPanic.normal ?_
    generalize hwf : World.setCell _ _ _ = wf0
    have hrs : Blk wf0 (b + 1 + 1) 28 #[.int .i64 (most : Int), .slice (some ⟨gp, 0, none⟩) n c7, .slice A9 f1 c9] := by rw [← hwf]; exact ((((HX11.out.rs.set_ 0 (.int .i64 (most : Int))).set_ 1 (.slice (some ⟨gp, 0, none⟩) n c7)).set_ 2 (.slice A9 f1 c9)).far (p := ⟨b + 1 + 1 + 1, 0, none⟩) (by simp) (.int .i64 (sl : Int))).far (p := ⟨b + 1 + 1 + 1, 1, none⟩) (by simp) (.int .i64 (us : Int))
    have hrh : Blk wf0 (b + 1 + 1 + 1) 43 #[.int .i64 (sl : Int), .int .i64 (us : Int)] := by rw [← hwf]; exact ((((HX11.out.rh.far (p := ⟨b + 1 + 1, 0, none⟩) (by simp) (.int .i64 (most : Int))).far (p := ⟨b + 1 + 1, 1, none⟩) (by simp) (.slice (some ⟨gp, 0, none⟩) n c7)).far (p := ⟨b + 1 + 1, 2, none⟩) (by simp) (.slice A9 f1 c9)).set_ 0 (.int .i64 (sl : Int))).set_ 1 (.int .i64 (us : Int))
    have oF : Only (fun k => k = b + 1 + 1 ∨ k = b + 1 + 1 + 1) w11 wf0 := by rw [← hwf]; exact ((((((Only.refl (fun k => k = b + 1 + 1 ∨ k = b + 1 + 1 + 1) w11).setCell_ (p := ⟨b + 1 + 1, 0, none⟩) (.inl (.inl rfl)) _).setCell_ (p := ⟨b + 1 + 1, 1, none⟩) (.inl (.inl rfl)) _).setCell_ (p := ⟨b + 1 + 1, 2, none⟩) (.inl (.inl rfl)) _).setCell_ (p := ⟨b + 1 + 1 + 1, 0, none⟩) (.inl (.inr rfl)) _).setCell_ (p := ⟨b + 1 + 1 + 1, 1, none⟩) (.inl (.inr rfl)) _)
    have hrs := hrs.drew_
    have hrh := hrh.drew_
    have oF := oF.drew_
    clear hwf hHeld q0 q1 q2 q3 q4 f0 f1' f2 f3 f4 x0 y0 y1
    go_wp2_with fail
    have hap : ∀ {base : Nat} {t : TypeId} {size n' : Nat} {v : Value} {xs : List Value}, w11.ownsRow base t size v n' xs → t ≠ 28 → t ≠ 43 → ∀ g, v.ownBlock = some g → ¬ (g = b + 1 + 1 ∨ g = b + 1 + 1 + 1) := fun hr n1 n2 g hg hs => by
      rcases hs with hs | hs
      · exact own_blk_ne hr HX11.out.rs n1 (hs ▸ hg)
      · exact own_blk_ne hr HX11.out.rh n2 (hs ▸ hg)
    have e1 : storeV (m.add e) (.slice (some ⟨gp, 0, none⟩) n c7) (.slice A9 f1 c9) = .agg #[.int .i64 (most : Int), .slice (some ⟨gp, 0, none⟩) n c7, .slice A9 f1 c9] := by
      show Value.agg #[.int .i64 (m.most : Int), _, _] = _
      rw [HMO.out]
    have hBw : B ≤ w1.heap.size := by have := HBW.out; omega
    refine bodyPost_ret (results_cell2_tmp rfl _ _ (b + 1 + 1) _ _ (0, 0) _ rfl hrs Try.underlying28 rfl (by kernel_rfl) (b + 1 + 1 + 1) _ _ (0, 0) _ rfl hrh Try.underlying43 rfl (by kernel_rfl)) rfl ⟨.slice (some ⟨gp, 0, none⟩) n c7, .slice A9 f1 c9, (L).set sl rn9, ?_, ?_, ?_, ?_, ?_, ?_⟩
    · rw [e1, HSL.out, HUS.out]; rfl
    · rw [HBW.out]
      exact Only.below_trans HB11.out oF (by rw [← HBW.out]; have := HB11.out.size; omega) (fun k hk => by omega)
    · rw [List.map_set, HPE.out.1]
      show _ = m.pl1.set m.slot ⟨true, m.use + 1, e⟩
      rw [HSL.out, HUS.out, ← HR9.out]
    · rw [List.length_set, HPN.out]
      exact owns_base2 (owns_only HPX.out oF (hap HPX.out (by decide) (by decide))) hBw
    · intro r hr
      rcases List.mem_or_eq_of_mem_set hr with hr | rfl
      · exact (HEN11.out r hr).only oF (hap (HEN11.out r hr).raw (by decide) (by decide)) (hap (HEN11.out r hr).peers (by decide) (by decide))
      · rw [← HR9.out]
        exact HE11.out.only oF (hap HE11.out.raw (by decide) (by decide)) (hap HE11.out.peers (by decide) (by decide))
    · show wf0.drew.ownsRow B 3 1 (.slice A9 f1 c9) m.fr.dropLast.length (natsV m.fr.dropLast)
      rw [← HFN.out]
      exact owns_only HF11.out oF (hap HF11.out (by decide) (by decide))
end Go.Proofs.Ytnihkjhejjeepaa
