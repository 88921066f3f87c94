/- The store of entries: Remove. -/
import Derived.Test.YtnihkjhejjeepaaSlb2
namespace Go.Proofs.Ytnihkjhejjeepaa
open Go.RowKit
set_option linter.unusedVariables false
set_option linter.unusedSimpArgs false
open ShaW Sha

/-- the entry of nothing -/
def ent0 : Ent := ⟨fun _ => 0, 0, fun _ => 0, ByteArray.empty, 0, 0, 0, 0, 0, 0, []⟩
theorem ent0_at (w : World) (base : Nat) : EntAt w base ent0 (.slice none 0 0) (.slice none 0 0) := ⟨World.ownsRow_nil _ _ _ _, World.ownsRow_nil _ _ _ _⟩
def freeCells (x y : Value) : List Value := entCells ent0 (.slice none 0 0) (.slice none 0 0) ++ [x, .bool false, y]
def freeRow (u : Nat) (next : Int) : SRow := ⟨⟨ent0, u, false, next⟩, .slice none 0 0, .slice none 0 0⟩
theorem freeRow_cells (u : Nat) (next : Int) : (freeRow u next).cells = freeCells (.int .i64 (u : Int)) (.int .i64 next) := rfl
/-- the same, written out -/
def freeLit (a b : Int) : Array Value := #[Value.int .u8 0, Value.int .u8 0, Value.int .u8 0, Value.int .u8 0, Value.int .u8 0, Value.int .u8 0, Value.int .u8 0, Value.int .u8 0, Value.int .u8 0, Value.int .u8 0, Value.int .u8 0, Value.int .u8 0, Value.int .u8 0, Value.int .u8 0, Value.int .u8 0, Value.int .u8 0, Value.int .u8 0, Value.int .u8 0, Value.int .u8 0, Value.int .u8 0, Value.int .u8 0, Value.int .u8 0, Value.int .u8 0, Value.int .u8 0, Value.int .u8 0, Value.int .u8 0, Value.int .u8 0, Value.int .u8 0, Value.int .u8 0, Value.int .u8 0, Value.int .u8 0, Value.int .u8 0, .slice none 0 0, .string { data := #[] }, .int .u64 0, .int .u64 0, .int .u64 0, .int .i64 0, .int .i64 0, .int .i64 0, .slice none 0 0, .int .i64 a, .bool false, .int .i64 b]
theorem freeLit_eq (u : Nat) (next : Int) : freeLit ((u : Int)) next = (freeRow u next).cells.toArray := by kernel_rfl
def IsI (v : Value) : Prop := ∃ n : Int, v = .int .i64 n
theorem isI (n : Int) : IsI (.int .i64 n) := ⟨n, rfl⟩
theorem built_free (a b : Int) : Try.prog.built 75 [(1, .int .i64 a), (3, .int .i64 b)] = some (freeCells (.int .i64 a) (.int .i64 b)).toArray := by kernel_rfl
theorem wp_build_free (dst : Option Tmp) (x y : Operand) (ty : TypeId) (pos : String) (after : Array Edge) (guard : Option (Nat × Bool)) (a : Act) (W : World) (K : Act → World → Prop) (Q : Exit → Act → World → Prop) (hx : IsI (a.eval x)) (hy : IsI (a.eval y)) :
    Oper.wp Try.prog { dst := dst, op := .build 75 #[(1, x), (3, y)], type := ty, pos := pos, after := after, guard := guard } a W K Q = K (a.put dst (.agg (freeCells (a.eval x) (a.eval y)).toArray)) W := by
  obtain ⟨n, hx⟩ := hx
  obtain ⟨m, hy⟩ := hy
  have hrun := run_build (P := Try.prog) W 75 #[(1, .int .i64 n), (3, .int .i64 m)] _ (built_free n m)
  unfold Oper.wp execOp
  simp only [hx, hy, Sem.run_bind, List.map_toArray, List.map_cons, List.map_nil, hrun, Result.andThen_ok]
  rfl
theorem wp_load_slot (dst : Option Tmp) (x : Operand) (ty : TypeId) (pos : String) (after : Array Edge) (guard : Option (Nat × Bool)) (a : Act) (W : World) (K : Act → World → Prop) (Q : Exit → Act → World → Prop) (h : AggOk 44 W (a.eval x)) :
    Oper.wp Try.prog { dst := dst, op := .load 75 x, type := ty, pos := pos, after := after, guard := guard } a W K Q = K (a.put dst (loadN 44 W (a.eval x))) W :=
  wp_load_agg Try.underlying75 rfl (by kernel_rfl) dst x ty pos after guard a W K Q h
theorem wp_store_slot (x y : Operand) (ty : TypeId) (pos : String) (after : Array Edge) (guard : Option (Nat × Bool)) (a : Act) (W : World) (K : Act → World → Prop) (Q : Exit → Act → World → Prop) (h : StoOk 44 W (a.eval x) (a.eval y)) :
    Oper.wp Try.prog { dst := none, op := .store 75 x y, type := ty, pos := pos, after := after, guard := guard } a W K Q = K a (storeMid W (a.eval x) (a.eval y)) :=
  wp_store_agg (by kernel_rfl) x y ty pos after guard a W K Q h
theorem SRow.one {w : World} {B : Nat} {r : SRow} (h : EntAt w B r.s.e r.rv r.pv) : ∀ u ∈ r.cells, u.oneCell' = true := by
  intro u hu
  rcases List.mem_append.1 hu with hu | hu
  · exact h.one u hu
  · simp at hu
    rcases hu with rfl | rfl | rfl <;> rfl
theorem owns_ne_ {w : World} {base base' : Nat} {e e' : TypeId} {size size' n n' : Nat} {v v' : Value} {xs xs' : List Value} (h : w.ownsRow base e size v n xs) (h' : w.ownsRow base' e' size' v' n' xs') (hne : e ≠ e') {g : Nat} (hg : v.ownBlock = some g) : v'.ownBlock ≠ some g := by
  intro hg'
  rcases h.2 with ⟨h1, _⟩ | ⟨k, cap, cur, h1, _, h3, _⟩
  · rw [h1] at hg; cases hg
  · rw [h1] at hg
    injection hg with hg
    subst hg
    exact own_blk_ne h' h3 (Ne.symm hne) hg'
/-- what a step of the store leaves -/
def SPost (w : World) (B C most : Nat) (L : List SRow) (size : Nat) (free : Int) (v : Value) (e : Ending) (w' : World) : Prop := e = .returned v ∧ Only (SFoot w B) w w' ∧ ∃ sv, SlAt w' B C most L sv size free
/-- the same, the slot of the store named (L and its slices are found) -/
theorem only_slot {w w' : World} {B C most : Nat} {L : List SRow} {sv : Value} {size : Nat} {free : Int} (h : SlAt w B C most L sv size free) {g : Nat} (hg : sv.ownBlock = some g) (ho : Only (fun k => k = g) w w') : Blk w' C 71 #[.int .i64 (most : Int), .int .i64 (size : Int), sv, .int .i64 free] ∧ ∀ r ∈ L, EntAt w' B r.s.e r.rv r.pv :=
  ⟨h.blk.only ho (fun e => own_blk_ne h.row h.blk (by decide) (hg.trans (congrArg some e.symm))), fun r hr => (h.ent r hr).only ho (fun k hk e => owns_ne_ h.row (h.ent r hr).raw (by decide) hg (e ▸ hk)) (fun k hk e => owns_ne_ h.row (h.ent r hr).peers (by decide) hg (e ▸ hk))⟩
/-- a slot is written, then cells of the store -/
theorem slot_end {w wa : World} {B C most : Nat} {L : List SRow} {g c : Nat} {size : Nat} {free : Int} (h : SlAt wa B C most L (.slice (some ⟨g, 0, none⟩) L.length c) size free) (hb : Below w.heap.size w wa) (hB : B ≤ w.heap.size) (h0 : SFoot w B C) (h1 : SFoot w B g) {i : Nat} (hi : i < L.length) (r : SRow) (hr : EntAt wa B r.s.e r.rv r.pv) (size' : Nat) (free' : Int) :
    Only (SFoot w B) w (((wa.setCells g (i * 44) r.cells).setCell ⟨C, 3, none⟩ (.int .i64 free')).setCell ⟨C, 1, none⟩ (.int .i64 (size' : Int))) ∧
    SlAt (((wa.setCells g (i * 44) r.cells).setCell ⟨C, 3, none⟩ (.int .i64 free')).setCell ⟨C, 1, none⟩ (.int .i64 (size' : Int))) B C most (L.set i r) (.slice (some ⟨g, 0, none⟩) L.length c) size' free' := by
  have o1 := setCells_only (fun k => k = g) wa g (i * 44) r.cells (.inl rfl)
  obtain ⟨hb1, he1⟩ := only_slot h rfl o1
  have hr1 : EntAt (wa.setCells g (i * 44) r.cells) B r.s.e r.rv r.pv := hr.only o1 (fun k hk e => owns_ne_ h.row hr.raw (by decide) (g := g) rfl (e ▸ hk)) (fun k hk e => owns_ne_ h.row hr.peers (by decide) (g := g) rfl (e ▸ hk))
  have hrow1 := owns_set h.row i hi r.cells (SRow.len r)
  have hrow2 : (wa.setCells g (i * 44) r.cells).ownsRow B 75 44 (.slice (some ⟨g, 0, none⟩) L.length c) L.length (rowsV (L.set i r)) := by
    have e : rowsV (L.set i r) = (rowsV L).take (i * 44) ++ r.cells ++ (rowsV L).drop (i * 44 + 44) := flat_set _ _ SRow.len L i hi r
    rw [e]; exact hrow1
  have o2 : Only (fun k => k = C) (wa.setCells g (i * 44) r.cells) (((wa.setCells g (i * 44) r.cells).setCell ⟨C, 3, none⟩ (.int .i64 free')).setCell ⟨C, 1, none⟩ (.int .i64 (size' : Int))) :=
    ((Only.refl (fun k => k = C) _).setCell_ (p := ⟨C, 3, none⟩) (.inl rfl) _).setCell_ (p := ⟨C, 1, none⟩) (.inl rfl) _
  have hb2 := (hb1.set_ 3 (.int .i64 free')).set_ 1 (.int .i64 (size' : Int))
  refine ⟨((Only.of_below (SFoot w B) hb).trans o1 (fun k hk => .inl (hk ▸ h1))).trans o2 (fun k hk => .inl (hk ▸ h0)), ⟨h.ge, hb2, ?_, fun q hq => ?_⟩⟩
  · rw [List.length_set]
    exact owns_only hrow2 o2 (fun k hk e => own_blk_ne hrow2 hb1 (by decide) (e ▸ hk))
  · have hq1 : EntAt (wa.setCells g (i * 44) r.cells) B q.s.e q.rv q.pv := by
      rcases List.mem_or_eq_of_mem_set hq with hq | rfl
      · exact he1 q hq
      · exact hr1
    exact hq1.only o2 (fun k hk e => own_blk_ne hq1.raw hb1 (by decide) (e ▸ hk)) (fun k hk e => own_blk_ne hq1.peers hb1 (by decide) (e ▸ hk))
set_option maxRecDepth 100000 in
theorem srem_no (w : World) (B C most : Nat) (L : List SRow) (sv : Value) (size : Nat) (free : Int) (h : SlAt w B C most L sv size free) (hl : L.length ≤ 1048576) (s u : Int) (hno : hasS L s u = false) :
    Calls Try.prog 18 #[.pointer (some ⟨C, 0, none⟩), hdl s u] w fun e w' => e = .returned (.bool false) ∧ Below w.heap.size w w' := by
  have HS := Lib.hid h
  have HNO := Lib.hid hno
  clear h hno
  go_enter Try.func18, Try.ntmps18
  go_upto_region 1 with (fail)
  generalize hwa : World.alloc w _ = wa
  have hb0 : Below w.heap.size w wa := by rw [← hwa]; exact (Below.refl _ _).alloc (Nat.le_refl _) _
  have hk : Blk wa w.heap.size 43 #[.int .i64 s, .int .i64 u] := by rw [← hwa]; exact Blk.new _ _ _
  have k0 := hk.cell 0
  have k1 := hk.cell 1
  simp at k0 k1
  have H := shas_any wa B C most L sv size free (HS.out.below hb0) hl s u
  rw [HNO.out] at H
  have HH := Lib.hid H
  have HB0 := Lib.hid hb0
  have hz := hb0.size
  clear hwa hb0 hk H
  go_wp2_with fail
  refine HH.out.mono ?_
  rintro e w1 ⟨rfl, hb1⟩
  have HB1 := Lib.hid (HB0.out.trans (hb1.mono hz))
  clear hb1
  go_wp2_with fail
  go_ret
  exact ⟨rfl, HB1.out⟩
set_option maxRecDepth 100000 in
set_option maxHeartbeats 2000000 in
attribute [local go_sem ↓] wp_store_slot in
theorem srem_yes (w : World) (B C most : Nat) (L : List SRow) (sv : Value) (size : Nat) (free : Int) (h : SlAt w B C most L sv size free) (hB : B ≤ w.heap.size) (hl : L.length ≤ 1048576) (hsz : 0 < size) (hsz2 : size ≤ 1048576) (hfr : -1 ≤ free ∧ free ≤ 1048576)
    (i u : Nat) (r : SRow) (hr : L[i]? = some r) (hu : r.s.use = u) (hu2 : u ≤ 1048576) (hf : r.s.full = true) :
    Calls Try.prog 18 #[.pointer (some ⟨C, 0, none⟩), hdl (i : Int) (u : Int)] w (SPost w B C most (L.set i (freeRow (u + 1) free)) (size - 1) (i : Int) (.bool true)) := by
  have hhas : hasS L (i : Int) (u : Int) = true := by rw [hasS_at hr, hf, hu]; simp
  have hil : i < L.length := (List.getElem?_eq_some_iff.1 hr).1
  obtain ⟨g, c, rfl, hc1, hc2, _, _, hth⟩ := h.at_ hr
  obtain ⟨n, hn⟩ : ∃ n, L.length = n := ⟨_, rfl⟩
  have HN := Lib.hid hn
  have HS := Lib.hid h
  have HH := Lib.hid hhas
  have HTH := Lib.hid hth
  have hil2 : i < n := by omega
  have hin : (i : Int) < n := by omega
  have hi0 : (0 : Int) ≤ i := by omega
  rw [hn] at hl hc1
  have x1 : w.cell? ⟨C, 1, none⟩ = some (.int .i64 (size : Int)) := h.blk.cell 1
  have x2 : w.cell? ⟨C, 2, none⟩ = some (.slice (some ⟨g, 0, none⟩) n c) := by rw [← hn]; exact h.blk.cell 2
  have x3 : w.cell? ⟨C, 3, none⟩ = some (.int .i64 free) := h.blk.cell 3
  have hCl := h.blk.lt
  clear hhas hth hr hf hu h hn
  go_enter Try.func18, Try.ntmps18
  go_upto_region 1 with (fail)
  generalize hwa : World.alloc w _ = wa
  have hb0 : Below w.heap.size w wa := by rw [← hwa]; exact (Below.refl _ _).alloc (Nat.le_refl _) _
  have hk : Blk wa w.heap.size 43 #[.int .i64 (i : Int), .int .i64 (u : Int)] := by rw [← hwa]; exact Blk.new _ _ _
  have k0 := hk.cell 0
  have k1 := hk.cell 1
  simp at k0 k1
  have H := shas_any wa B C most L _ size free (HS.out.below hb0) (by rw [HN.out]; omega) (i : Int) (u : Int)
  rw [HH.out] at H
  have HHC := Lib.hid H
  have HB0 := Lib.hid hb0
  have HK := Lib.hid hk
  have hz := hb0.size
  clear hwa hb0 hk H
  go_wp2_with fail
  refine HHC.out.mono ?_
  rintro e w1 ⟨rfl, hb1⟩
  have hb1' := HB0.out.trans (hb1.mono hz)
  have hk := HK.out.below hb1 HK.out.lt
  clear k0 k1
  have k0 := hk.cell 0
  have k1 := hk.cell 1
  simp at k0 k1
  have hs1 := HS.out.below hb1'
  have x1 : w1.cell? ⟨C, 1, none⟩ = some (.int .i64 (size : Int)) := hs1.blk.cell 1
  have x2 : w1.cell? ⟨C, 2, none⟩ = some (.slice (some ⟨g, 0, none⟩) n c) := by rw [← HN.out]; exact hs1.blk.cell 2
  have x3 : w1.cell? ⟨C, 3, none⟩ = some (.int .i64 free) := hs1.blk.cell 3
  have qs : StoOk 44 w1.drew (.pointer (some ⟨g, i * 44, none⟩)) (.agg #[Value.int .u8 0, Value.int .u8 0, Value.int .u8 0, Value.int .u8 0, Value.int .u8 0, Value.int .u8 0, Value.int .u8 0, Value.int .u8 0, Value.int .u8 0, Value.int .u8 0, Value.int .u8 0, Value.int .u8 0, Value.int .u8 0, Value.int .u8 0, Value.int .u8 0, Value.int .u8 0, Value.int .u8 0, Value.int .u8 0, Value.int .u8 0, Value.int .u8 0, Value.int .u8 0, Value.int .u8 0, Value.int .u8 0, Value.int .u8 0, Value.int .u8 0, Value.int .u8 0, Value.int .u8 0, Value.int .u8 0, Value.int .u8 0, Value.int .u8 0, Value.int .u8 0, Value.int .u8 0, .slice none 0 0, .string { data := #[] }, .int .u64 0, .int .u64 0, .int .u64 0, .int .i64 0, .int .i64 0, .int .i64 0, .slice none 0 0, .int .i64 ((u : Int) + 1), .bool false, .int .i64 free]) := by
    have h1 : StoOk 44 w1.drew (.pointer (some ⟨g, i * 44, none⟩)) (.agg (freeRow (u + 1) free).cells.toArray) :=
      ⟨g, i * 44, (freeRow (u + 1) free).cells, rfl, rfl, SRow.len _, owns_there (w := w1.drew) hs1.row i (by rw [HN.out]; omega), SRow.one (w := w1) (B := B) (ent0_at w1 B)⟩
    rw [← freeLit_eq] at h1
    exact h1
  have HB1 := Lib.hid hb1'
  have HS1 := Lib.hid hs1
  have HK1 := Lib.hid hk
  have hz1 := hb1'.size
  clear hb1 hb1' hk hs1 HHC
  go_wp2_with fail
  go_region
  go_upto_region 4 with (fail)
  generalize hw2 : storeMid _ _ _ = w2
  have he2 : w2 = w1.drew.setCells g (i * 44) (freeRow (u + 1) free).cells := by
    rw [← hw2]
    have e := freeLit_eq (u + 1) free
    rw [← storeMid_eq, ← e]
    rfl
  have o2 : Only (fun k => k = g) w1 w2 := by rw [he2]; exact (setCells_only (fun k => k = g) w1.drew g (i * 44) _ (.inl rfl)).of_drew
  obtain ⟨hk2, _⟩ := only_slot HS1.out rfl o2
  have x1 : w2.cell? ⟨C, 1, none⟩ = some (.int .i64 (size : Int)) := hk2.cell 1
  have x3 : w2.cell? ⟨C, 3, none⟩ = some (.int .i64 free) := hk2.cell 3
  have y1 := hk2.frozen 1
  have y3 := hk2.frozen 3
  have hkb := HK1.out.only o2 (fun e => own_blk_ne HS1.out.row HK1.out (by decide) (congrArg some e.symm))
  have k0 := hkb.cell 0
  simp at k0
  have hCk : w.heap.size ≠ C := by omega
  have hsi : (size : Int) - 1 = ((size - 1 : Nat) : Int) := by omega
  have HSI := Lib.hid hsi
  have HE2 := Lib.hid he2
  clear hw2 he2 o2 hk2 hkb hsi qs x2
  go_wp2_with fail
  go_ret
  rw [HE2.out, HSI.out]
  obtain ⟨z1, z2⟩ := slot_end (w := w) (wa := w1.drew) (HS1.out.below (below_drewN (Below.refl _ w1) 1)) (below_drewN HB1.out 1) hB HS.out.foot_blk (HS.out.foot_row (g := g) rfl) (i := i) (by rw [HN.out]; omega) (freeRow (u + 1) free) (ent0_at _ _) (size - 1) (i : Int)
  exact ⟨rfl, z1, _, z2⟩
end Go.Proofs.Ytnihkjhejjeepaa
