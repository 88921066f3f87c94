/- The nil store: Add, Get, Remove. -/
import Derived.Test.YtnihkjhejjeepaaSlb7
namespace Go.Proofs.Ytnihkjhejjeepaa
open Go.RowKit
set_option linter.unusedVariables false
set_option linter.unusedSimpArgs false
open ShaW Sha

set_option maxRecDepth 100000 in
set_option maxHeartbeats 4000000 in
attribute [local go_sem ↓] wp_load_ent wp_store_ent in
theorem snil_add (w : World) (cx : Array Value) (hcx : cx.size = 41) :
    Calls Try.prog 14 #[.pointer none, .agg cx] w (fun ed w' => ed = .returned (.tuple #[hdl 0 0, .bool false]) ∧ Below w.heap.size w w') := by
  go_enter Try.func14, Try.ntmps14
  go_upto_region 1 with (fail)
  generalize hwa : World.alloc (World.alloc w _) _ = wa
  have hb0 : Below w.heap.size w wa := by rw [← hwa]; exact ((Below.refl _ _).alloc (Nat.le_refl _) _).alloc (by simp) _
  have hkh : Blk wa (w.heap.size + 1) 43 #[.int .i64 0, .int .i64 0] := by rw [← hwa]; exact heap_alloc_at _ _ _ (by simp)
  have HB0 := Lib.hid hb0
  have HKH := Lib.hid hkh
  have hz0 := hb0.size
  clear hwa hb0 hkh
  go_quiet (fail)
  generalize hwq : World.drewN wa nq = wb
  have hbq : Below wa.heap.size wa wb := by rw [← hwq]; exact below_drewN (Below.refl _ wa) nq
  have HBQ := Lib.hid (HB0.out.trans (hbq.mono hz0))
  have HKH1 := Lib.hid (HKH.out.below hbq HKH.out.lt)
  have hzq : w.heap.size ≤ wb.heap.size := Nat.le_trans hz0 hbq.size
  clear hwq hbq HKH
  have hkh := HKH1.out
  have z0 := hkh.cell 0
  have z1 := hkh.cell 1
  have f0 := hkh.frozen 0
  have f1 := hkh.frozen 1
  simp at z0 z1
  have hhl := hkh.lt
  clear hkh
  go_wp2_with fail
  exact bodyPost_ret (results_cell_tmp rfl _ _ (w.heap.size + 1) _ #[.int .i64 0, .int .i64 0] (0, 0) _ rfl ((HKH1.out.set_ 0 _).set_ 1 _) Try.underlying43 rfl (by kernel_rfl)) rfl ⟨rfl, (HBQ.out.setCell (p := ⟨w.heap.size + 1, 0, none⟩) (by simp) _).setCell (p := ⟨w.heap.size + 1, 1, none⟩) (by simp) _⟩
set_option maxRecDepth 100000 in
set_option maxHeartbeats 2000000 in
theorem snil_rem (w : World) (s u : Int) :
    Calls Try.prog 18 #[.pointer none, hdl s u] w fun e w' => e = .returned (.bool false) ∧ Below w.heap.size w w' := by
  go_enter Try.func18, Try.ntmps18
  go_upto_region 1 with (fail)
  generalize hwa : World.alloc w _ = wa
  have hb0 : Below w.heap.size w wa := by rw [← hwa]; exact (Below.refl _ _).alloc (Nat.le_refl _) _
  have hk : Blk wa w.heap.size 43 #[.int .i64 s, .int .i64 u] := by rw [← hwa]; exact Blk.new _ _ _
  have k0 := hk.cell 0
  have k1 := hk.cell 1
  simp at k0 k1
  have H := snil_has wa s u
  have HH := Lib.hid H
  have HB0 := Lib.hid hb0
  have hz := hb0.size
  clear hwa hb0 hk H
  go_wp2_with fail
  refine HH.out.mono ?_
  rintro e w1 ⟨rfl, hb1⟩
  have HB1 := Lib.hid (HB0.out.trans (hb1.mono hz))
  clear hb1
  go_wp2_with fail
  go_ret
  exact ⟨rfl, HB1.out⟩
set_option maxRecDepth 100000 in
set_option maxHeartbeats 2000000 in
attribute [local go_sem ↓] wp_load_ent wp_store_ent in
theorem snil_get (w : World) (s u : Int) :
    Calls Try.prog 15 #[.pointer none, hdl s u] w fun e w' => e = .returned (.tuple #[entV ent0 (.slice none 0 0) (.slice none 0 0), .bool false]) ∧ Below w.heap.size w w' := by
  go_enter Try.func15, Try.ntmps15
  go_upto_region 1 with (fail)
  generalize hwa : World.alloc (World.alloc w _) _ = wa
  have hb0 : Below w.heap.size w wa := by rw [← hwa]; exact ((Below.refl _ _).alloc (Nat.le_refl _) _).alloc (by simp) _
  have hk : Blk wa w.heap.size 43 #[.int .i64 s, .int .i64 u] := by rw [← hwa]; exact (Blk.new _ _ _).alloc _
  have hk2 : ∃ z : Array Value, Blk wa (w.heap.size + 1) 38 z ∧ z.size = 41 := by rw [← hwa]; exact ⟨_, heap_alloc_at _ _ _ (by simp), rfl⟩
  obtain ⟨z, hk2, hz41⟩ := hk2
  have k0 := hk.cell 0
  have k1 := hk.cell 1
  simp at k0 k1
  have H := snil_has wa s u
  have HH := Lib.hid H
  have HB0 := Lib.hid hb0
  have HK2 := Lib.hid hk2
  have hz := hb0.size
  clear hwa hb0 hk H hk2
  go_wp2_with fail
  refine HH.out.mono ?_
  rintro e w1 ⟨rfl, hb1⟩
  have HB1 := Lib.hid (HB0.out.trans (hb1.mono hz))
  have hk2 := HK2.out.below hb1 HK2.out.lt
  have qs : StoOk 41 w1 (.pointer (some ⟨w.heap.size + 1, 0, none⟩)) (.agg #[Value.int .u8 0, Value.int .u8 0, Value.int .u8 0, Value.int .u8 0, Value.int .u8 0, Value.int .u8 0, Value.int .u8 0, Value.int .u8 0, Value.int .u8 0, Value.int .u8 0, Value.int .u8 0, Value.int .u8 0, Value.int .u8 0, Value.int .u8 0, Value.int .u8 0, Value.int .u8 0, Value.int .u8 0, Value.int .u8 0, Value.int .u8 0, Value.int .u8 0, Value.int .u8 0, Value.int .u8 0, Value.int .u8 0, Value.int .u8 0, Value.int .u8 0, Value.int .u8 0, Value.int .u8 0, Value.int .u8 0, Value.int .u8 0, Value.int .u8 0, Value.int .u8 0, Value.int .u8 0, .slice none 0 0, .string { data := #[] }, .int .u64 0, .int .u64 0, .int .u64 0, .int .i64 0, .int .i64 0, .int .i64 0, .slice none 0 0]) := by
    have h1 : StoOk 41 w1 (.pointer (some ⟨w.heap.size + 1, 0, none⟩)) (.agg (entCells ent0 (.slice none 0 0) (.slice none 0 0)).toArray) := ⟨_, 0, _, rfl, rfl, entCells_len _ _ _, blk_there hk2 (by omega), entCells_one rfl rfl⟩
    rw [← entLit0_eq] at h1
    exact h1
  have HK3 := Lib.hid hk2
  clear hb1 hk2 k0 k1 HH
  go_wp2_with fail
  have hrr := setCells_whole HK3.out (hz41.trans (entCells_len ent0 (.slice none 0 0) (.slice none 0 0)).symm)
  have e0 : storeMid w1 (.pointer (some ⟨w.heap.size + 1, 0, none⟩)) (.agg entLit0) = w1.setCells (w.heap.size + 1) 0 (entCells ent0 (.slice none 0 0) (.slice none 0 0)) := by rw [entLit0_eq]; exact storeMid_eq _ _ _ _
  have e1 : storeMid w1 (.pointer (some ⟨w.heap.size + 1, 0, none⟩)) (.agg #[Value.int .u8 0, Value.int .u8 0, Value.int .u8 0, Value.int .u8 0, Value.int .u8 0, Value.int .u8 0, Value.int .u8 0, Value.int .u8 0, Value.int .u8 0, Value.int .u8 0, Value.int .u8 0, Value.int .u8 0, Value.int .u8 0, Value.int .u8 0, Value.int .u8 0, Value.int .u8 0, Value.int .u8 0, Value.int .u8 0, Value.int .u8 0, Value.int .u8 0, Value.int .u8 0, Value.int .u8 0, Value.int .u8 0, Value.int .u8 0, Value.int .u8 0, Value.int .u8 0, Value.int .u8 0, Value.int .u8 0, Value.int .u8 0, Value.int .u8 0, Value.int .u8 0, Value.int .u8 0, .slice none 0 0, .string { data := #[] }, .int .u64 0, .int .u64 0, .int .u64 0, .int .i64 0, .int .i64 0, .int .i64 0, .slice none 0 0]) = w1.setCells (w.heap.size + 1) 0 (entCells ent0 (.slice none 0 0) (.slice none 0 0)) := e0
  rw [e1]
  have oo := setCells_only (fun g => g = w.heap.size + 1) w1 (w.heap.size + 1) 0 (entCells ent0 (.slice none 0 0) (.slice none 0 0)) (.inl rfl)
  exact bodyPost_ret (results_cell_tmp rfl _ _ (w.heap.size + 1) _ (entCells ent0 (.slice none 0 0) (.slice none 0 0)).toArray (0, 0) _ rfl hrr Try.underlying38 rfl (by rw [List.size_toArray, entCells_len]; kernel_rfl)) rfl ⟨rfl, Only.below_trans HB1.out oo HB1.out.size (fun g hg => by omega)⟩
end Go.Proofs.Ytnihkjhejjeepaa
