/- The store of entries: Get. -/
import Derived.Test.YtnihkjhejjeepaaSlb5
namespace Go.Proofs.Ytnihkjhejjeepaa
open Go.RowKit
set_option linter.unusedVariables false
set_option linter.unusedSimpArgs false
open ShaW Sha

def entLit0 : Array Value := #[Value.int .u8 0, Value.int .u8 0, Value.int .u8 0, Value.int .u8 0, Value.int .u8 0, Value.int .u8 0, Value.int .u8 0, Value.int .u8 0, Value.int .u8 0, Value.int .u8 0, Value.int .u8 0, Value.int .u8 0, Value.int .u8 0, Value.int .u8 0, Value.int .u8 0, Value.int .u8 0, Value.int .u8 0, Value.int .u8 0, Value.int .u8 0, Value.int .u8 0, Value.int .u8 0, Value.int .u8 0, Value.int .u8 0, Value.int .u8 0, Value.int .u8 0, Value.int .u8 0, Value.int .u8 0, Value.int .u8 0, Value.int .u8 0, Value.int .u8 0, Value.int .u8 0, Value.int .u8 0, .slice none 0 0, .string { data := #[] }, .int .u64 0, .int .u64 0, .int .u64 0, .int .i64 0, .int .i64 0, .int .i64 0, .slice none 0 0]
theorem entLit0_eq : entLit0 = (entCells ent0 (.slice none 0 0) (.slice none 0 0)).toArray := by kernel_rfl
set_option maxRecDepth 100000 in
set_option maxHeartbeats 2000000 in
attribute [local go_sem ↓] wp_load_ent wp_store_ent in
theorem sget_no (w : World) (B C most : Nat) (L : List SRow) (sv : Value) (size : Nat) (free : Int) (h : SlAt w B C most L sv size free) (hl : L.length ≤ 1048576) (s u : Int) (hno : hasS L s u = false) :
    Calls Try.prog 15 #[.pointer (some ⟨C, 0, none⟩), hdl s u] w fun e w' => e = .returned (.tuple #[entV ent0 (.slice none 0 0) (.slice none 0 0), .bool false]) ∧ Below w.heap.size w w' := by
  have HS := Lib.hid h
  have HNO := Lib.hid hno
  clear h hno
  go_enter Try.func15, Try.ntmps15
  go_upto_region 1 with (fail)
  generalize hwa : World.alloc (World.alloc w _) _ = wa
  have hb0 : Below w.heap.size w wa := by rw [← hwa]; exact ((Below.refl _ _).alloc (Nat.le_refl _) _).alloc (by simp) _
  have hk : Blk wa w.heap.size 43 #[.int .i64 s, .int .i64 u] := by rw [← hwa]; exact (Blk.new _ _ _).alloc _
  have hk2 : ∃ z : Array Value, Blk wa (w.heap.size + 1) 38 z ∧ z.size = 41 := by rw [← hwa]; exact ⟨_, heap_alloc_at _ _ _ (by simp), rfl⟩
  obtain ⟨z, hk2, hz41⟩ := hk2
  have k0 := hk.cell 0
  have k1 := hk.cell 1
  simp at k0 k1
  have H := shas_any wa B C most L sv size free (HS.out.below hb0) hl s u
  rw [HNO.out] at H
  have HH := Lib.hid H
  have HB0 := Lib.hid hb0
  have HK2 := Lib.hid hk2
  have hz := hb0.size
  clear hwa hb0 hk H hk2
  go_wp2_with fail
  refine HH.out.mono ?_
  rintro e w1 ⟨rfl, hb1⟩
  have HB1 := Lib.hid (HB0.out.trans (hb1.mono hz))
  have hk2 := HK2.out.below hb1 HK2.out.lt
  have qs : StoOk 41 w1 (.pointer (some ⟨w.heap.size + 1, 0, none⟩)) (.agg #[Value.int .u8 0, Value.int .u8 0, Value.int .u8 0, Value.int .u8 0, Value.int .u8 0, Value.int .u8 0, Value.int .u8 0, Value.int .u8 0, Value.int .u8 0, Value.int .u8 0, Value.int .u8 0, Value.int .u8 0, Value.int .u8 0, Value.int .u8 0, Value.int .u8 0, Value.int .u8 0, Value.int .u8 0, Value.int .u8 0, Value.int .u8 0, Value.int .u8 0, Value.int .u8 0, Value.int .u8 0, Value.int .u8 0, Value.int .u8 0, Value.int .u8 0, Value.int .u8 0, Value.int .u8 0, Value.int .u8 0, Value.int .u8 0, Value.int .u8 0, Value.int .u8 0, Value.int .u8 0, .slice none 0 0, .string { data := #[] }, .int .u64 0, .int .u64 0, .int .u64 0, .int .i64 0, .int .i64 0, .int .i64 0, .slice none 0 0]) := by
    have h1 : StoOk 41 w1 (.pointer (some ⟨w.heap.size + 1, 0, none⟩)) (.agg (entCells ent0 (.slice none 0 0) (.slice none 0 0)).toArray) := ⟨_, 0, _, rfl, rfl, entCells_len _ _ _, blk_there hk2 (by omega), entCells_one rfl rfl⟩
    rw [← entLit0_eq] at h1
    exact h1
  have HK3 := Lib.hid hk2
  clear hb1 hk2 k0 k1 HH
  go_wp2_with fail
  have hrr := setCells_whole HK3.out (hz41.trans (entCells_len ent0 (.slice none 0 0) (.slice none 0 0)).symm)
  have e0 : storeMid w1 (.pointer (some ⟨w.heap.size + 1, 0, none⟩)) (.agg entLit0) = w1.setCells (w.heap.size + 1) 0 (entCells ent0 (.slice none 0 0) (.slice none 0 0)) := by rw [entLit0_eq]; exact storeMid_eq _ _ _ _
  have e1 : storeMid w1 (.pointer (some ⟨w.heap.size + 1, 0, none⟩)) (.agg #[Value.int .u8 0, Value.int .u8 0, Value.int .u8 0, Value.int .u8 0, Value.int .u8 0, Value.int .u8 0, Value.int .u8 0, Value.int .u8 0, Value.int .u8 0, Value.int .u8 0, Value.int .u8 0, Value.int .u8 0, Value.int .u8 0, Value.int .u8 0, Value.int .u8 0, Value.int .u8 0, Value.int .u8 0, Value.int .u8 0, Value.int .u8 0, Value.int .u8 0, Value.int .u8 0, Value.int .u8 0, Value.int .u8 0, Value.int .u8 0, Value.int .u8 0, Value.int .u8 0, Value.int .u8 0, Value.int .u8 0, Value.int .u8 0, Value.int .u8 0, Value.int .u8 0, Value.int .u8 0, .slice none 0 0, .string { data := #[] }, .int .u64 0, .int .u64 0, .int .u64 0, .int .i64 0, .int .i64 0, .int .i64 0, .slice none 0 0]) = w1.setCells (w.heap.size + 1) 0 (entCells ent0 (.slice none 0 0) (.slice none 0 0)) := e0
  rw [e1]
  have oo := setCells_only (fun g => g = w.heap.size + 1) w1 (w.heap.size + 1) 0 (entCells ent0 (.slice none 0 0) (.slice none 0 0)) (.inl rfl)
  exact bodyPost_ret (results_cell_tmp rfl _ _ (w.heap.size + 1) _ (entCells ent0 (.slice none 0 0) (.slice none 0 0)).toArray (0, 0) _ rfl hrr Try.underlying38 rfl (by rw [List.size_toArray, entCells_len]; kernel_rfl)) rfl ⟨rfl, Only.below_trans HB1.out oo HB1.out.size (fun g hg => by omega)⟩
def GetPost (w : World) (e : Ent) (ed : Ending) (w' : World) : Prop := ∃ rv pv, ed = .returned (.tuple #[entV e rv pv, .bool true]) ∧ Below w.heap.size w w' ∧ EntAt w' w.heap.size e rv pv
set_option maxRecDepth 100000 in
set_option maxHeartbeats 2000000 in
attribute [local go_sem ↓] wp_load_ent wp_store_ent in
theorem sget_yes (w : World) (B C most : Nat) (L : List SRow) (sv : Value) (size : Nat) (free : Int) (h : SlAt w B C most L sv size free) (hl : L.length ≤ 1048576)
    (i u : Nat) (r : SRow) (hr : L[i]? = some r) (hu : r.s.use = u) (hf : r.s.full = true) (hrn : r.s.e.rn ≤ 1048576) (hpn : r.s.e.peers.length ≤ 1048576) :
    Calls Try.prog 15 #[.pointer (some ⟨C, 0, none⟩), hdl (i : Int) (u : Int)] w (GetPost w r.s.e) := by
  have hhas : hasS L (i : Int) (u : Int) = true := by rw [hasS_at hr, hf, hu]; simp
  have hil : i < L.length := (List.getElem?_eq_some_iff.1 hr).1
  obtain ⟨g, c, rfl, hc1, hc2, _, hrg, _⟩ := h.at_ hr
  obtain ⟨n, hn⟩ : ∃ n, L.length = n := ⟨_, rfl⟩
  have HN := Lib.hid hn
  have HS := Lib.hid h
  have HH := Lib.hid hhas
  have HER := Lib.hid (h.ent r (List.mem_of_getElem? hr))
  have hil2 : i < n := by omega
  have hin : (i : Int) < n := by omega
  have hi0 : (0 : Int) ≤ i := by omega
  rw [hn] at hl hc1
  have hre : w.rangeAt g (i * 44) (entCells r.s.e r.rv r.pv) := fun j v hj => hrg j v (by
    unfold SRow.cells
    exact (List.getElem?_append_left (List.getElem?_eq_some_iff.1 hj).1).trans hj)
  have HRE := Lib.hid hre
  have hCl := h.blk.lt
  clear hhas hrg hr hf hu h hn hre
  go_enter Try.func15, Try.ntmps15
  go_upto_region 1 with (fail)
  generalize hwa : World.alloc (World.alloc w _) _ = wa
  have hb0 : Below w.heap.size w wa := by rw [← hwa]; exact ((Below.refl _ _).alloc (Nat.le_refl _) _).alloc (by simp) _
  have hk : Blk wa w.heap.size 43 #[.int .i64 (i : Int), .int .i64 (u : Int)] := by rw [← hwa]; exact (Blk.new _ _ _).alloc _
  have hk2 : ∃ z : Array Value, Blk wa (w.heap.size + 1) 38 z ∧ z.size = 41 := by rw [← hwa]; exact ⟨_, heap_alloc_at _ _ _ (by simp), rfl⟩
  obtain ⟨z, hk2, hz41⟩ := hk2
  have k0 := hk.cell 0
  have k1 := hk.cell 1
  simp at k0 k1
  have H := shas_any wa B C most L _ size free (HS.out.below hb0) (by rw [HN.out]; omega) (i : Int) (u : Int)
  rw [HH.out] at H
  have HHC := Lib.hid H
  have HB0 := Lib.hid hb0
  have HK := Lib.hid hk
  have HK2 := Lib.hid hk2
  have hz := hb0.size
  clear hwa hb0 hk H hk2
  go_wp2_with fail
  refine HHC.out.mono ?_
  rintro e w1 ⟨rfl, hb1⟩
  have hb1' := HB0.out.trans (hb1.mono hz)
  have HB1 := Lib.hid hb1'
  have HS1 := Lib.hid (HS.out.below hb1')
  have HK1 := Lib.hid (HK.out.below hb1 HK.out.lt)
  have HK3 := Lib.hid (HK2.out.below hb1 HK2.out.lt)
  have HE1 := Lib.hid (HER.out.below hb1')
  have hre1 : w1.rangeAt g (i * 44) (entCells r.s.e r.rv r.pv) := fun j v hj => by
    have h1 := HRE.out j v hj
    exact (hb1'.cell (p := ⟨g, i * 44 + j, none⟩) (World.block_lt_of_cell? w _ h1)).trans h1
  have HRE1 := Lib.hid hre1
  have hgl : g < w1.heap.size := by
    have h1 := HRE1.out 0 _ (List.getElem?_eq_getElem (by rw [entCells_len]; omega))
    exact World.block_lt_of_cell? w1 _ h1
  have hz1 := hb1'.size
  have hg8 : Hid (∀ W, Below w1.heap.size w1 W → W.rangeAt g (i * 44) (entCells r.s.e r.rv r.pv)) := fun W hW j v hj => by
    have h1 := HRE1.out j v hj
    exact (hW.cell (p := ⟨g, i * 44 + j, none⟩) (World.block_lt_of_cell? w1 _ h1)).trans h1
  clear hb1 hb1' hre1 HHC k0 k1 HRE
  go_upto_region 3 with (fail)
  have hu := Try.underlying38
  have hik : (Try.prog.info? 38).map (·.size) = some (entCells r.s.e r.rv r.pv).length := by rw [entCells_len]; kernel_rfl
  have hS1 : w1.cell? ⟨C, 2, none⟩ = some (.slice (some ⟨g, 0, none⟩) n c) ∧ w1.cell? ⟨w.heap.size, 0, none⟩ = some (.int .i64 (i : Int)) ∧ w1.rangeAt g (i * 44) (entCells r.s.e r.rv r.pv) := ⟨by rw [← HN.out]; exact HS1.out.blk.cell 2, HK1.out.cell 0, HRE1.out⟩
  refine wp_region_noPanic ?_
  refine wp_region_held_drew (S := fun w' => w'.cell? ⟨C, 2, none⟩ = some (.slice (some ⟨g, 0, none⟩) n c) ∧ w'.cell? ⟨w.heap.size, 0, none⟩ = some (.int .i64 (i : Int)) ∧ w'.rangeAt g (i * 44) (entCells r.s.e r.rv r.pv)) (by kernel_rfl) hS1 (fun hHeld => ?_)
  refine wpAnyH_take (i := 0) (oi := ⟨some 11, _, _, _, _, _⟩) (v := ?_) rfl (by kernel_rfl) (by kernel_rfl) (by kernel_rfl) (fun _ _ _ h => h) (Or.inl ⟨by kernel_rfl, ?_⟩) hHeld ?_
  rotate_left
  · intro w hSw
    obtain ⟨sm, so, sk⟩ := hSw
    go_simp
    all_goals (with_reducible rfl)
  conv => arg 8; simp only [Act.put, List.setIfInBounds_toArray, List.set_cons_zero, List.set_cons_succ]
  refine wpAnyH_take (i := 1) (oi := ⟨some 12, _, _, _, _, _⟩) (v := ?_) rfl (by kernel_rfl) (by kernel_rfl) (by kernel_rfl) (fun _ _ _ h => h) (Or.inl ⟨by kernel_rfl, ?_⟩) hHeld ?_
  rotate_left
  · intro w hSw
    obtain ⟨sm, so, sk⟩ := hSw
    go_simp
    all_goals (with_reducible rfl)
  conv => arg 8; simp only [Act.put, List.setIfInBounds_toArray, List.set_cons_zero, List.set_cons_succ]
  refine wpAnyH_take (i := 2) (oi := ⟨some 13, _, _, _, _, _⟩) (v := ?_) rfl (by kernel_rfl) (by kernel_rfl) (by kernel_rfl) (fun _ _ _ h => h) (Or.inl ⟨by kernel_rfl, ?_⟩) hHeld ?_
  rotate_left
  · intro w hSw
    obtain ⟨sm, so, sk⟩ := hSw
    go_simp
    all_goals (with_reducible rfl)
  conv => arg 8; simp only [Act.put, List.setIfInBounds_toArray, List.set_cons_zero, List.set_cons_succ]
  refine wpAnyH_take (i := 3) (oi := ⟨some 14, _, _, _, _, _⟩) (v := ?_) rfl (by kernel_rfl) (by kernel_rfl) (by kernel_rfl) (fun _ _ _ h => h) (Or.inl ⟨by kernel_rfl, ?_⟩) hHeld ?_
  rotate_left
  · intro w hSw
    obtain ⟨sm, so, sk⟩ := hSw
    go_simp
    all_goals (with_reducible rfl)
  conv => arg 8; simp only [Act.put, List.setIfInBounds_toArray, List.set_cons_zero, List.set_cons_succ]
  refine wpAnyH_take (i := 4) (oi := ⟨some 15, _, _, _, _, _⟩) (v := ?_) rfl (by kernel_rfl) (by kernel_rfl) (by kernel_rfl) (fun _ _ _ h => h) (Or.inl ⟨by kernel_rfl, ?_⟩) hHeld ?_
  rotate_left
  · intro w hSw
    obtain ⟨sm, so, sk⟩ := hSw
    go_simp
    all_goals (with_reducible rfl)
  conv => arg 8; simp only [Act.put, List.setIfInBounds_toArray, List.set_cons_zero, List.set_cons_succ]
  refine wpAnyH_take (i := 5) (oi := ⟨some 16, _, _, _, _, _⟩) (v := ?_) rfl (by kernel_rfl) (by kernel_rfl) (by kernel_rfl) (fun _ _ _ h => h) (Or.inl ⟨by kernel_rfl, ?_⟩) hHeld ?_
  rotate_left
  · intro w hSw
    obtain ⟨sm, so, sk⟩ := hSw
    go_simp
    all_goals (with_reducible rfl)
  conv => arg 8; simp only [Act.put, List.setIfInBounds_toArray, List.set_cons_zero, List.set_cons_succ]
  refine wpAnyH_take (i := 6) (oi := ⟨some 17, _, _, _, _, _⟩) (v := ?_) rfl (by kernel_rfl) (by kernel_rfl) (by kernel_rfl) (fun _ _ _ h => h) (Or.inl ⟨by kernel_rfl, ?_⟩) hHeld ?_
  rotate_left
  · intro w hSw
    obtain ⟨sm, so, sk⟩ := hSw
    go_simp
    all_goals (with_reducible rfl)
  conv => arg 8; simp only [Act.put, List.setIfInBounds_toArray, List.set_cons_zero, List.set_cons_succ]
  refine wpAnyH_take (i := 7) (oi := ⟨some 18, _, _, _, _, _⟩) (v := ?_) rfl (by kernel_rfl) (by kernel_rfl) (by kernel_rfl) (fun _ _ _ h => h) (Or.inl ⟨by kernel_rfl, ?_⟩) hHeld ?_
  rotate_left
  · intro w hSw
    obtain ⟨sm, so, sk⟩ := hSw
    go_simp
    all_goals (with_reducible rfl)
  conv => arg 8; simp only [Act.put, List.setIfInBounds_toArray, List.set_cons_zero, List.set_cons_succ]
  refine wpAnyH_take (i := 8) (oi := ⟨some 19, _, _, _, _, _⟩) (v := _) rfl (by kernel_rfl) (by kernel_rfl) (by kernel_rfl) (fun _ _ _ h => h) (yieldsIf_load_mid (S := fun w' => w'.cell? ⟨C, 2, none⟩ = some (.slice (some ⟨g, 0, none⟩) n c) ∧ w'.cell? ⟨w.heap.size, 0, none⟩ = some (.int .i64 (i : Int)) ∧ w'.rangeAt g (i * 44) (entCells r.s.e r.rv r.pv)) (by kernel_rfl) _ _ rfl _ _ rfl _ _ (fun w hSw => hSw.2.2) hu rfl hik) hHeld ?_
  conv => arg 8; simp only [Act.put, List.setIfInBounds_toArray, List.set_cons_zero, List.set_cons_succ]
  refine wpAnyH_ready (rs := [9]) (by kernel_rfl) (by simp) ?_
  refine AllReadyH.cons (o := ⟨some 20, _, _, _, _, _⟩) rfl (fun K hK => ?_) AllReadyH.nil
  go_simp
  go_at_call 32
  (with_reducible refine (ownEntry_any w1.drew r.s.e r.rv r.pv (HE1.out.rd.below (below_drewN (Below.refl _ w1) 1)) hrn hpn).mono ?_)
  rintro ed9 w9 ⟨rv9, pv9, rfl, hb9, he9⟩
  have hb9 : Below w1.heap.size w1 w9 := (belowDrewR (Below.refl _ w1)).trans hb9
  have HB9 := Lib.hid hb9
  have HE9 := Lib.hid he9
  have hk9 := HK3.out.below hb9 HK3.out.lt
  have HK9 := Lib.hid hk9
  have HS9 := Lib.hid (HS1.out.below hb9)
  have HKH9 := Lib.hid (HK1.out.below hb9 HK1.out.lt)
  have qs : StoOk 41 w9 (.pointer (some ⟨w.heap.size + 1, 0, none⟩)) (.agg (entCells r.s.e rv9 pv9).toArray) := ⟨_, 0, _, rfl, rfl, entCells_len _ _ _, blk_there hk9 (by omega), entCells_one (own_oneCell he9.raw) (own_oneCell he9.peers)⟩
  clear hb9 he9 hk9
  refine hK.out _ _ ⟨by rw [← HN.out]; exact HS9.out.blk.cell 2, HKH9.out.cell 0, hg8.out _ HB9.out⟩ (fun hHeld => ?_)
  clear hK K
  conv => arg 8; simp only [Act.put, List.setIfInBounds_toArray, List.set_cons_zero, List.set_cons_succ]
  refine wpAnyH_ready (rs := [10]) (by kernel_rfl) (by simp) ?_
  refine AllReadyH.cons (o := ⟨none, _, _, _, _, _⟩) rfl (fun K hK => ?_) AllReadyH.nil
  go_simp
  generalize hw10 : storeMid _ _ _ = w10
  have he10 : w10 = w9.setCells (w.heap.size + 1) 0 (entCells r.s.e rv9 pv9) := by rw [← hw10]; exact storeMid_eq _ _ _ _
  have o10 : Only (fun k => k = w.heap.size + 1) w9 w10 := by rw [he10]; exact setCells_only (fun k => k = w.heap.size + 1) w9 (w.heap.size + 1) 0 _ (.inl rfl)
  have hCn : C ≠ w.heap.size + 1 := by omega
  have hgn : g ≠ w.heap.size + 1 := fun e' => own_blk_ne HS9.out.row HK9.out (by decide) (congrArg some e')
  have HO10 := Lib.hid o10
  have HE10 := Lib.hid he10
  clear hw10 he10 o10 qs
  refine hK.out _ _ ⟨by rw [← HN.out]; exact (HO10.out.cell (p := ⟨C, 2, none⟩) HS9.out.blk.lt hCn).trans (HS9.out.blk.cell 2), (HO10.out.cell (p := ⟨w.heap.size, 0, none⟩) HKH9.out.lt (by simp)).trans (HKH9.out.cell 0), fun j v hj => (HO10.out.cell (p := ⟨g, i * 44 + j, none⟩) (Nat.lt_of_lt_of_le hgl HB9.out.size) hgn).trans (hg8.out _ HB9.out j v hj)⟩ (fun hHeld => ?_)
  clear hK K
  conv => arg 8; simp only [Act.put, List.setIfInBounds_toArray, List.set_cons_zero, List.set_cons_succ]
  refine wpAnyH_take (i := 11) (oi := ⟨some 5, _, _, _, _, _⟩) (v := ?_) rfl (by kernel_rfl) (by kernel_rfl) (by kernel_rfl) (fun _ _ _ h => h) (Or.inl ⟨by kernel_rfl, ?_⟩) hHeld ?_
  rotate_left
  · intro w hSw
    obtain ⟨sm, so, sk⟩ := hSw
    go_simp
    all_goals (with_reducible rfl)
  conv => arg 8; simp only [Act.put, List.setIfInBounds_toArray, List.set_cons_zero, List.set_cons_succ]
  refine wpAnyH_done (by kernel_rfl) ?_ _
  refine NoPanic.normal ?_
  clear hHeld hu hik hS1
  go_wp2_with fail
  have hrr := setCells_whole HK9.out (hz41.trans (entCells_len r.s.e rv9 pv9).symm)
  rw [← HE10.out] at hrr
  refine bodyPost_ret (results_cell_tmp rfl _ _ (w.heap.size + 1) _ (entCells r.s.e rv9 pv9).toArray (0, 0) _ rfl hrr Try.underlying38 rfl (by rw [List.size_toArray, entCells_len]; kernel_rfl)) rfl
    ⟨rv9, pv9, rfl, Only.below_trans (HB1.out.trans (HB9.out.mono hz1)) HO10.out (by have := HB9.out.size; omega) (fun k hk => by omega), ?_⟩
  have he := HE9.out.only HO10.out (fun k hk e' => own_blk_ne HE9.out.raw HK9.out (by decide) (e' ▸ hk)) (fun k hk e' => own_blk_ne HE9.out.peers HK9.out (by decide) (e' ▸ hk))
  exact he.less (show w.heap.size ≤ w1.drew.heap.size from hz1)
end Go.Proofs.Ytnihkjhejjeepaa
