/- The reference's store of entries: what lies in memory; NewStore, Count, Size. -/
import Derived.Test.YtnihkjhejjeepaaSlbHd
namespace Go.Proofs.Ytnihkjhejjeepaa
open Go.RowKit
set_option linter.unusedVariables false
set_option linter.unusedSimpArgs false
open ShaW Sha

theorem blk_at {w : World} {cs : Array Value} {t : TypeId} {g : Nat} (h : g = w.heap.size) : Blk (w.alloc (.cells cs t)) g t cs := by subst h; exact heap_alloc_new _ _
/-- a place in memory -/
structure PRow where
  p : Plc
  rv : Value
  pv : Value
def PRow.cells (r : PRow) : List Value := [.bool r.p.full, .int .i64 (r.p.uses : Int)] ++ entCells r.p.e r.rv r.pv
theorem PRow.len (r : PRow) : r.cells.length = 43 := by unfold PRow.cells; rw [List.length_append, entCells_len]; rfl
def placesV (L : List PRow) : List Value := L.flatMap PRow.cells
theorem placesV_len (L : List PRow) : (placesV L).length = L.length * 43 := flat_len _ _ PRow.len L
theorem placesV_append (L M : List PRow) : placesV (L ++ M) = placesV L ++ placesV M := by unfold placesV; rw [List.flatMap_append]
theorem placesV_one (r : PRow) : placesV [r] = r.cells := by unfold placesV; simp
theorem PRow.one {r : PRow} (h : r.rv.oneCell' = true) (h' : r.pv.oneCell' = true) : ∀ u ∈ r.cells, u.oneCell' = true := by
  intro u hu
  rcases List.mem_append.1 hu with hu | hu
  · simp at hu
    rcases hu with rfl | rfl <;> rfl
  · exact entCells_one h h' u hu
def natsV (l : List Nat) : List Value := intsV (l.map fun (i : Nat) => (i : Int))
theorem natsV_len (l : List Nat) : (natsV l).length = l.length := by unfold natsV; rw [intsV_len, List.length_map]
theorem natsV_append (l m : List Nat) : natsV (l ++ m) = natsV l ++ natsV m := by unfold natsV intsV; rw [List.map_append, List.map_append]
/-- pv, fv: the places and the free ones of m -/
structure RefS (w : World) (B : Nat) (pv fv : Value) (m : RSt) (L : List PRow) : Prop where
  eq : L.map PRow.p = m.pl
  row : w.ownsRow B 80 43 pv L.length (placesV L)
  ent : ∀ r ∈ L, EntAt w B r.p.e r.rv r.pv
  fre : w.ownsRow B 3 1 fv m.fr.length (natsV m.fr)
theorem RefS.len {w : World} {B : Nat} {pv fv : Value} {m : RSt} {L : List PRow} (h : RefS w B pv fv m L) : L.length = m.pl.length := by rw [← h.eq, List.length_map]
theorem RefS.below {w w' : World} {B : Nat} {pv fv : Value} {m : RSt} {L : List PRow} (h : RefS w B pv fv m L) (hb : Below w.heap.size w w') : RefS w' B pv fv m L :=
  ⟨h.eq, owns_below h.row hb, fun r hr => (h.ent r hr).below hb, owns_below h.fre hb⟩
theorem RefS.apart {S : Nat → Prop} {w w' : World} {B : Nat} {pv fv : Value} {m : RSt} {L : List PRow} (h : RefS w B pv fv m L) (ho : Only S w w') (hS : ∀ g, S g → ∃ t cs, Blk w g t cs ∧ t ∉ [80, 5, 3]) : RefS w' B pv fv m L := by
  have hr : ∀ {base : Nat} {e : TypeId} {size n : Nat} {v : Value} {xs : List Value}, w.ownsRow base e size v n xs → e ∈ [80, 5, 3] → ∀ g, v.ownBlock = some g → ¬ S g := fun h2 h3 g hg hs => by
    obtain ⟨t, cs, hb, ht⟩ := hS g hs
    exact own_blk_ne h2 hb (fun e => ht (by rw [← e]; exact h3)) hg
  exact ⟨h.eq, owns_only h.row ho (hr h.row (by simp)), fun r hrr => (h.ent r hrr).only ho (hr (h.ent r hrr).raw (by simp)) (hr (h.ent r hrr).peers (by simp)), owns_only h.fre ho (hr h.fre (by simp))⟩
theorem RefS.slab {w w' : World} {B B' : Nat} {pv fv : Value} {m : RSt} {L : List PRow} (h : RefS w B pv fv m L) (ho : Only (SFoot w B') w w') : RefS w' B pv fv m L :=
  h.apart ho (fun g hg => by
    obtain ⟨_, t, cs, hb, ht⟩ := hg
    refine ⟨t, cs, hb, ?_⟩
    simp at ht
    rcases ht with rfl | rfl <;> decide)
theorem RefS.num {w w' : World} {B B' D n N : Nat} {pv fv : Value} {m : RSt} {L : List PRow} (h : RefS w B pv fv m L) (hn : NumAt w B' D n N) (ho : Only (fun k => k = D) w w') : RefS w' B pv fv m L := by
  obtain ⟨cs, hk⟩ := hn.blk
  exact h.apart ho (fun g hg => ⟨52, _, hg.symm ▸ hk, by decide⟩)
abbrev storeV (m : RSt) (pv fv : Value) : Value := .agg #[.int .i64 (m.most : Int), pv, fv]
/-- the cells of a place -/
theorem RefS.at_ {w : World} {B : Nat} {pv fv : Value} {m : RSt} {L : List PRow} (h : RefS w B pv fv m L) {i : Nat} {r : PRow} (hr : L[i]? = some r) :
    ∃ g c, pv = .slice (some ⟨g, 0, none⟩) L.length c ∧ L.length ≤ c ∧ c ≤ 9223372036854775807 ∧ (∀ j, j < 43 → w.cell? ⟨g, i * 43 + j, none⟩ = r.cells[j]?) ∧ w.rangeAt g (i * 43) r.cells ∧ w.there g (i * 43) 43 := by
  have hi : i < L.length := (List.getElem?_eq_some_iff.1 hr).1
  obtain ⟨g, c, hv, _, _⟩ := h.row.form (by omega)
  have hrow := h.row
  rw [hv] at hrow
  have hc : L.length ≤ c ∧ c ≤ 9223372036854775807 := by
    rcases hrow.2 with ⟨h1, _⟩ | ⟨_, cap, _, h1, _, _, h2, h3, _⟩
    · cases h1
    · injection h1 with _ _ h1; subst h1; unfold maxLen at h3; exact ⟨h2, h3⟩
  have hcell : ∀ j, j < 43 → w.cell? ⟨g, i * 43 + j, none⟩ = r.cells[j]? := fun j hj => by
    rw [hrow.cellAt _ (by omega)]
    exact flat_get _ _ PRow.len L hr hj
  refine ⟨g, c, hv, hc.1, hc.2, hcell, fun j v hj => ?_, owns_there hrow i hi⟩
  have hjl : j < 43 := by
    have := (List.getElem?_eq_some_iff.1 hj).1
    rw [PRow.len] at this; exact this
  rw [hcell j hjl]; exact hj
theorem pcell_ent (r : PRow) (j : Nat) : r.cells[34 + j]? = (entTail r.p.e r.rv r.pv)[j]? := by
  unfold PRow.cells
  rw [List.getElem?_append_right (by simp; omega)]
  show (entCells _ _ _)[34 + j - 2]? = _
  rw [show 34 + j - 2 = 32 + j by omega]
  exact entCells_get _ _ _ j
theorem wp_load_place (dst : Option Tmp) (x : Operand) (ty : TypeId) (pos : String) (after : Array Edge) (guard : Option (Nat × Bool)) (a : Act) (W : World) (K : Act → World → Prop) (Q : Exit → Act → World → Prop) (h : AggOk 43 W (a.eval x)) :
    Oper.wp Try.prog { dst := dst, op := .load 80 x, type := ty, pos := pos, after := after, guard := guard } a W K Q = K (a.put dst (loadN 43 W (a.eval x))) W :=
  wp_load_agg Try.underlying80 rfl (by kernel_rfl) dst x ty pos after guard a W K Q h
theorem wp_store_place (x y : Operand) (ty : TypeId) (pos : String) (after : Array Edge) (guard : Option (Nat × Bool)) (a : Act) (W : World) (K : Act → World → Prop) (Q : Exit → Act → World → Prop) (h : StoOk 43 W (a.eval x) (a.eval y)) :
    Oper.wp Try.prog { dst := none, op := .store 80 x y, type := ty, pos := pos, after := after, guard := guard } a W K Q = K a (storeMid W (a.eval x) (a.eval y)) :=
  wp_store_agg (by kernel_rfl) x y ty pos after guard a W K Q h
theorem pbox_sto (W : World) (r : PRow) (h1 : ∀ u ∈ r.cells, u.oneCell' = true) : StoOk 43 (W.alloc (.cells #[.bool false, .int .i64 0, Value.int .u8 0, Value.int .u8 0, Value.int .u8 0, Value.int .u8 0, Value.int .u8 0, Value.int .u8 0, Value.int .u8 0, Value.int .u8 0, Value.int .u8 0, Value.int .u8 0, Value.int .u8 0, Value.int .u8 0, Value.int .u8 0, Value.int .u8 0, Value.int .u8 0, Value.int .u8 0, Value.int .u8 0, Value.int .u8 0, Value.int .u8 0, Value.int .u8 0, Value.int .u8 0, Value.int .u8 0, Value.int .u8 0, Value.int .u8 0, Value.int .u8 0, Value.int .u8 0, Value.int .u8 0, Value.int .u8 0, Value.int .u8 0, Value.int .u8 0, Value.int .u8 0, Value.int .u8 0, .slice none 0 0, .string { data := #[] }, .int .u64 0, .int .u64 0, .int .u64 0, .int .i64 0, .int .i64 0, .int .i64 0, .slice none 0 0] 80)) (.pointer (some ⟨W.heap.size, 0, none⟩)) (.agg r.cells.toArray) :=
  ⟨_, 0, _, rfl, rfl, r.len, blk_there (heap_alloc_new _ _) (Nat.le_refl 43), h1⟩
theorem pbox_end {W W' : World} {r : PRow} (h : storeMid (W.alloc (.cells #[.bool false, .int .i64 0, Value.int .u8 0, Value.int .u8 0, Value.int .u8 0, Value.int .u8 0, Value.int .u8 0, Value.int .u8 0, Value.int .u8 0, Value.int .u8 0, Value.int .u8 0, Value.int .u8 0, Value.int .u8 0, Value.int .u8 0, Value.int .u8 0, Value.int .u8 0, Value.int .u8 0, Value.int .u8 0, Value.int .u8 0, Value.int .u8 0, Value.int .u8 0, Value.int .u8 0, Value.int .u8 0, Value.int .u8 0, Value.int .u8 0, Value.int .u8 0, Value.int .u8 0, Value.int .u8 0, Value.int .u8 0, Value.int .u8 0, Value.int .u8 0, Value.int .u8 0, Value.int .u8 0, Value.int .u8 0, .slice none 0 0, .string { data := #[] }, .int .u64 0, .int .u64 0, .int .u64 0, .int .i64 0, .int .i64 0, .int .i64 0, .slice none 0 0] 80)) (.pointer (some ⟨W.heap.size, 0, none⟩)) (.agg r.cells.toArray) = W') :
    Below W.heap.size W W' ∧ Blk W' W.heap.size 80 r.cells.toArray := by
  rw [storeMid_eq] at h
  rw [← h]
  exact ⟨Only.below_trans ((Below.refl _ _).alloc (Nat.le_refl _) _) (setCells_only (fun k => k = W.heap.size) _ W.heap.size 0 _ (.inl rfl)) (by simp) (fun k hk => Nat.le_of_eq hk.symm), setCells_whole (heap_alloc_new _ _) (by rw [r.len]; rfl)⟩
theorem cntP_take {l : List Plc} {k : Nat} {p : Plc} (h : l[k]? = some p) : cntP (l.take (k + 1)) = cntP (l.take k) + one? p.full := by
  rw [List.take_add_one, h, cntP_append]
  rfl
theorem sizeP_append (l l' : List Plc) : sizeP (l ++ l') = sizeP l + sizeP l' := by
  induction l with
  | nil => simp [sizeP]
  | cons a l ih => simp [sizeP, ih, Nat.add_assoc]
theorem sizeP_take {l : List Plc} {k : Nat} {p : Plc} (h : l[k]? = some p) : sizeP (l.take (k + 1)) = sizeP (l.take k) + (if p.full then p.e.rn else 0) := by
  rw [List.take_add_one, h, sizeP_append]
  rfl
theorem sizeP_le {l : List Plc} (h : ∀ p ∈ l, p.e.rn ≤ 16) : sizeP l ≤ l.length * 16 := by
  induction l with
  | nil => simp [sizeP]
  | cons a l ih =>
    have h1 := ih (fun p hp => h p (List.mem_cons_of_mem _ hp))
    have h2 := h a List.mem_cons_self
    simp only [sizeP, List.length_cons]
    split <;> omega
theorem rnewst_any (w : World) (n : Int) (hn : -9223372036854775808 ≤ n ∧ n ≤ 9223372036854775807) :
    Calls Try.prog 27 #[.int .i64 n] w fun e w' => e = .returned (storeV ⟨clampS n, [], []⟩ (.slice none 0 0) (.slice none 0 0)) ∧ Below w.heap.size w w' := by
  have hc : max 0 (min n 512) = (clampS n : Int) := by unfold clampS; omega
  obtain ⟨sz, hsz⟩ : ∃ sz, clampS n = sz := ⟨_, rfl⟩
  rw [hsz] at hc ⊢
  go_enter Try.func27, Try.ntmps27
  go_wp2_with fail
  all_goals
    refine bodyPost_ret (results_cell_row rfl _ _ (w.heap.size) _ #[_, .slice none 0 0, .slice none 0 0] (0, 0) _ rfl (heap_alloc_new _ _) Try.underlying28 rfl (by kernel_rfl)) rfl ⟨?_, (Below.refl _ _).alloc (Nat.le_refl _) _⟩
    simp [storeV]
    omega
set_option maxRecDepth 100000 in
set_option maxHeartbeats 4000000 in
attribute [local go_sem ↓] wp_load_place wp_store_place in
theorem rcount_any (w : World) (B : Nat) (pv fv : Value) (m : RSt) (L : List PRow) (k : Nat) (h : RefS w B pv fv m L) (hw : WfR m k) (hk : k ≤ 2000) :
    Calls Try.prog 20 #[storeV m pv fv] w fun e w' => e = .returned (.int .i64 (cntP m.pl : Int)) ∧ Below w.heap.size w w' := by
  have HS := Lib.hid h
  have HW := Lib.hid hw
  obtain ⟨A, c, rfl⟩ := own_form h.row
  obtain ⟨Af, cf, rfl⟩ := own_form h.fre
  obtain ⟨n, hn⟩ : ∃ n, L.length = n := ⟨_, rfl⟩
  have hml := h.len
  have hwl := hw.len
  rw [hn] at hml ⊢
  obtain ⟨most, hmo⟩ : ∃ x, m.most = x := ⟨_, rfl⟩
  obtain ⟨fl, hfl⟩ : ∃ x, m.fr.length = x := ⟨_, rfl⟩
  show Calls _ _ #[.agg #[.int .i64 (m.most : Int), _, _]] _ _
  rw [hmo, hfl]
  have HN := Lib.hid hn
  have HML := Lib.hid hml
  have hn2 : n ≤ 2000 := by omega
  clear h hw hn hmo hfl hml hwl
  go_enter Try.func20, Try.ntmps20
  go_upto_region 1 with (fail)
  generalize hwa : World.alloc w _ = wa
  have hb0 : Below w.heap.size w wa := by rw [← hwa]; exact (Below.refl _ _).alloc (Nat.le_refl _) _
  have hkb : Blk wa w.heap.size 28 #[.int .i64 (most : Int), .slice A n c, .slice Af fl cf] := by rw [← hwa]; exact heap_alloc_new _ _
  have x1 : wa.cell? ⟨w.heap.size, 1, none⟩ = some (.slice A n c) := hkb.cell 1
  have HB0 := Lib.hid hb0
  have hz0 := hb0.size
  clear hwa hb0 hkb
  go_wp2_with fail
  go_loopw [3, 9] (fun s i wr => ∃ j : Nat, j ≤ n ∧ i = .int .i64 (j : Int) ∧ s = .int .i64 (cntP (m.pl.take j) : Int) ∧ Below w.heap.size w wr) (fun _ i _ => n - (intOf i).toNat)
  case atStart => exact ⟨0, by omega, rfl, rfl, HB0.out⟩
  case round =>
    obtain ⟨j, hj, rfl, rfl, hbr⟩ := hrel
    have HBR := Lib.hid hbr
    clear hbr x1
    rcases Nat.lt_or_ge j n with hlt | hge
    · have t1 : (j : Int) < n := by omega
      obtain ⟨r, hr⟩ : ∃ r, L[j]? = some r := ⟨L[j]'(by have := HN.out; omega), List.getElem?_eq_getElem _⟩
      have hp : m.pl[j]? = some r.p := by rw [← HS.out.eq, List.getElem?_map, hr]; rfl
      have hS := HS.out.below HBR.out
      obtain ⟨g, c', hv, _, _, _, hrg, _⟩ := hS.at_ hr
      injection hv with h1 _ _
      subst h1
      have hen := hS.ent r (List.mem_of_getElem? hr)
      have hle := cntP_take hp
      obtain ⟨q, hq⟩ : ∃ q, cntP (m.pl.take j) = q := ⟨_, rfl⟩
      rw [hq] at hle
      have hq2 : q ≤ 2000 := by
        rw [← hq]
        have h2 := cntP_len (m.pl.take j)
        have h3 : (m.pl.take j).length ≤ j := List.length_take_le _ _
        omega
      obtain ⟨Ar, cr, hrv⟩ := own_form hen.raw
      have h34 : r.cells[34]? = some r.rv := pcell_ent r 0
      rw [hrv] at h34
      have hrs := (HW.out.ents r.p (List.mem_of_getElem? hp)).1
      obtain ⟨rn, hrn⟩ : ∃ x, r.p.e.rn = x := ⟨_, rfl⟩
      rw [hrn] at h34 hrs
      have qa : AggOk 43 wr (.pointer (some ⟨g, j * 43, none⟩)) := aggOk_mk hrg r.len
      have ld := loadN_eq hrg r.len
      have qs := pbox_sto wr r (PRow.one (own_oneCell hen.raw) (own_oneCell hen.peers))
      have g2 : IntKind.i64.wrap ((j : Int) + 1) = (j : Int) + 1 := IntWalk.i64_in _ (by omega)
      have HLE := Lib.hid hle
      have HQ := Lib.hid hq
      have H34 := Lib.hid h34
      clear hle hrv hrg h34 hen hr hp hS hrn
      rw [hq]
      clear hq
      go_upto_region 5 with (fail)
      generalize hwb : storeMid _ _ _ = w3
      obtain ⟨hb3, hk3⟩ := pbox_end hwb
      have y0 : w3.cell? ⟨wr.heap.size, 0, none⟩ = some (.bool r.p.full) := hk3.cell 0
      have y34 : w3.cell? ⟨wr.heap.size, 34, none⟩ = some (.slice Ar rn cr) := by rw [hk3.cell]; exact List.getElem?_toArray.trans H34.out
      have HB3 := Lib.hid (HBR.out.trans (hb3.mono HBR.out.size))
      clear hwb hb3 hk3 qa ld qs
      cases hf : r.p.full with
      | true =>
        rw [hf] at y0
        have hle2 := HLE.out
        rw [hf] at hle2
        skip
        have g1 : IntKind.i64.wrap ((q : Int) + 1) = (q : Int) + 1 := IntWalk.i64_in _ (by omega)
        have HLE2 := Lib.hid hle2
        clear hf hle2
        go_wp2_with fail
        go_roundw
        case rel => exact ⟨j + 1, by omega, by go_num, by rw [HLE2.out]; first | rfl | go_num, HB3.out⟩
        case measure => simp [intOf]; omega
      | false =>
        rw [hf] at y0
        have hle2 := HLE.out
        rw [hf] at hle2
        skip
        have HLE2 := Lib.hid hle2
        clear hf hle2 y34
        go_wp2_with fail
        go_roundw
        case rel => exact ⟨j + 1, by omega, by go_num, by rw [HLE2.out]; first | rfl | (simp [one?]), HB3.out⟩
        case measure => simp [intOf]; omega
    · obtain rfl : j = n := by omega
      have t1 : ¬ (j : Int) < j := by omega
      go_wp2_with fail
      go_ret
      refine ⟨?_, HBR.out⟩
      rw [List.take_of_length_le (by have := HML.out; omega)]
      rfl
set_option maxRecDepth 100000 in
set_option maxHeartbeats 4000000 in
attribute [local go_sem ↓] wp_load_place wp_store_place in
theorem rsize_any (w : World) (B : Nat) (pv fv : Value) (m : RSt) (L : List PRow) (k : Nat) (h : RefS w B pv fv m L) (hw : WfR m k) (hk : k ≤ 2000) :
    Calls Try.prog 22 #[storeV m pv fv] w fun e w' => e = .returned (.int .i64 (sizeP m.pl : Int)) ∧ Below w.heap.size w w' := by
  have HS := Lib.hid h
  have HW := Lib.hid hw
  obtain ⟨A, c, rfl⟩ := own_form h.row
  obtain ⟨Af, cf, rfl⟩ := own_form h.fre
  obtain ⟨n, hn⟩ : ∃ n, L.length = n := ⟨_, rfl⟩
  have hml := h.len
  have hwl := hw.len
  rw [hn] at hml ⊢
  obtain ⟨most, hmo⟩ : ∃ x, m.most = x := ⟨_, rfl⟩
  obtain ⟨fl, hfl⟩ : ∃ x, m.fr.length = x := ⟨_, rfl⟩
  show Calls _ _ #[.agg #[.int .i64 (m.most : Int), _, _]] _ _
  rw [hmo, hfl]
  have HN := Lib.hid hn
  have HML := Lib.hid hml
  have hn2 : n ≤ 2000 := by omega
  clear h hw hn hmo hfl hml hwl
  go_enter Try.func22, Try.ntmps22
  go_upto_region 1 with (fail)
  generalize hwa : World.alloc w _ = wa
  have hb0 : Below w.heap.size w wa := by rw [← hwa]; exact (Below.refl _ _).alloc (Nat.le_refl _) _
  have hkb : Blk wa w.heap.size 28 #[.int .i64 (most : Int), .slice A n c, .slice Af fl cf] := by rw [← hwa]; exact heap_alloc_new _ _
  have x1 : wa.cell? ⟨w.heap.size, 1, none⟩ = some (.slice A n c) := hkb.cell 1
  have HB0 := Lib.hid hb0
  have hz0 := hb0.size
  clear hwa hb0 hkb
  go_wp2_with fail
  go_loopw [3, 9] (fun s i wr => ∃ j : Nat, j ≤ n ∧ i = .int .i64 (j : Int) ∧ s = .int .i64 (sizeP (m.pl.take j) : Int) ∧ Below w.heap.size w wr) (fun _ i _ => n - (intOf i).toNat)
  case atStart => exact ⟨0, by omega, rfl, rfl, HB0.out⟩
  case round =>
    obtain ⟨j, hj, rfl, rfl, hbr⟩ := hrel
    have HBR := Lib.hid hbr
    clear hbr x1
    rcases Nat.lt_or_ge j n with hlt | hge
    · have t1 : (j : Int) < n := by omega
      obtain ⟨r, hr⟩ : ∃ r, L[j]? = some r := ⟨L[j]'(by have := HN.out; omega), List.getElem?_eq_getElem _⟩
      have hp : m.pl[j]? = some r.p := by rw [← HS.out.eq, List.getElem?_map, hr]; rfl
      have hS := HS.out.below HBR.out
      obtain ⟨g, c', hv, _, _, _, hrg, _⟩ := hS.at_ hr
      injection hv with h1 _ _
      subst h1
      have hen := hS.ent r (List.mem_of_getElem? hr)
      have hle := sizeP_take hp
      obtain ⟨q, hq⟩ : ∃ q, sizeP (m.pl.take j) = q := ⟨_, rfl⟩
      rw [hq] at hle
      have hq2 : q ≤ 2000 * 16 := by
        rw [← hq]
        have h2 := sizeP_le (l := m.pl.take j) (fun p hp => (HW.out.ents p (List.mem_of_mem_take hp)).1)
        have h3 : (m.pl.take j).length ≤ j := List.length_take_le _ _
        omega
      obtain ⟨Ar, cr, hrv⟩ := own_form hen.raw
      have h34 : r.cells[34]? = some r.rv := pcell_ent r 0
      rw [hrv] at h34
      have hrs := (HW.out.ents r.p (List.mem_of_getElem? hp)).1
      obtain ⟨rn, hrn⟩ : ∃ x, r.p.e.rn = x := ⟨_, rfl⟩
      rw [hrn] at h34 hrs hle
      have qa : AggOk 43 wr (.pointer (some ⟨g, j * 43, none⟩)) := aggOk_mk hrg r.len
      have ld := loadN_eq hrg r.len
      have qs := pbox_sto wr r (PRow.one (own_oneCell hen.raw) (own_oneCell hen.peers))
      have g2 : IntKind.i64.wrap ((j : Int) + 1) = (j : Int) + 1 := IntWalk.i64_in _ (by omega)
      have HLE := Lib.hid hle
      have HQ := Lib.hid hq
      have H34 := Lib.hid h34
      clear hle hrv hrg h34 hen hr hp hS hrn
      rw [hq]
      clear hq
      go_upto_region 5 with (fail)
      generalize hwb : storeMid _ _ _ = w3
      obtain ⟨hb3, hk3⟩ := pbox_end hwb
      have y0 : w3.cell? ⟨wr.heap.size, 0, none⟩ = some (.bool r.p.full) := hk3.cell 0
      have y34 : w3.cell? ⟨wr.heap.size, 34, none⟩ = some (.slice Ar rn cr) := by rw [hk3.cell]; exact List.getElem?_toArray.trans H34.out
      have HB3 := Lib.hid (HBR.out.trans (hb3.mono HBR.out.size))
      clear hwb hb3 hk3 qa ld qs
      cases hf : r.p.full with
      | true =>
        rw [hf] at y0
        have hle2 := HLE.out
        rw [hf] at hle2
        rw [if_pos rfl] at hle2
        have g1 : IntKind.i64.wrap ((q : Int) + (rn : Int)) = (q : Int) + (rn : Int) := IntWalk.i64_in _ (by omega)
        have HLE2 := Lib.hid hle2
        clear hf hle2
        go_wp2_with fail
        go_roundw
        case rel => exact ⟨j + 1, by omega, by go_num, by rw [HLE2.out]; first | rfl | go_num, HB3.out⟩
        case measure => simp [intOf]; omega
      | false =>
        rw [hf] at y0
        have hle2 := HLE.out
        rw [hf] at hle2
        rw [if_neg (by decide), Nat.add_zero] at hle2
        have HLE2 := Lib.hid hle2
        clear hf hle2 y34
        go_wp2_with fail
        go_roundw
        case rel => exact ⟨j + 1, by omega, by go_num, by rw [HLE2.out]; first | rfl | (simp [one?]), HB3.out⟩
        case measure => simp [intOf]; omega
    · obtain rfl : j = n := by omega
      have t1 : ¬ (j : Int) < j := by omega
      go_wp2_with fail
      go_ret
      refine ⟨?_, HBR.out⟩
      rw [List.take_of_length_le (by have := HML.out; omega)]
      rfl
end Go.Proofs.Ytnihkjhejjeepaa
