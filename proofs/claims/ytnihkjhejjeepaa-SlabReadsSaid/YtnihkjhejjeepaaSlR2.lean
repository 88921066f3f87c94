/- The reference's store of entries: GetEntry. -/
import Derived.Test.YtnihkjhejjeepaaSlR1
namespace Go.Proofs.Ytnihkjhejjeepaa
open Go.RowKit
set_option linter.unusedVariables false
set_option linter.unusedSimpArgs false
open ShaW Sha

set_option maxRecDepth 100000 in
set_option maxHeartbeats 4000000 in
attribute [local go_sem ↓] wp_load_ent wp_store_ent in
theorem rgetr_no (w : World) (B : Nat) (pv fv : Value) (m : RSt) (L : List PRow) (k : Nat) (h : RefS w B pv fv m L) (hw : WfR m k) (hk : k ≤ 2000) (s u : Int) (hno : m.ok s u = false) :
    Calls Try.prog 25 #[storeV m pv fv, hdl s u] w fun e w' => e = .returned (.tuple #[entV ent0 (.slice none 0 0) (.slice none 0 0), .bool false]) ∧ Below w.heap.size w w' := by
  obtain ⟨A, c, rfl⟩ := own_form h.row
  obtain ⟨Af, cf, rfl⟩ := own_form h.fre
  obtain ⟨n, hn⟩ : ∃ n, L.length = n := ⟨_, rfl⟩
  have hml := h.len
  have hwl := hw.len
  rw [hn] at hml ⊢
  obtain ⟨most, hmo⟩ : ∃ x, m.most = x := ⟨_, rfl⟩
  obtain ⟨fl, hfl⟩ : ∃ x, m.fr.length = x := ⟨_, rfl⟩
  show Calls _ _ #[.agg #[.int .i64 (m.most : Int), _, _], _] _ _
  rw [hmo, hfl]
  have HS := Lib.hid h
  have HW := Lib.hid hw
  have HN := Lib.hid hn
  have HML := Lib.hid hml
  have hn2 : n ≤ 2000 := by omega
  clear h hw hn hmo hfl hml hwl
  by_cases hs0 : s < 0
  · have t1 : s < 0 := hs0
    have t1' : decide (s < 0) = true := by simp; omega
    clear hno hs0
    go_enter Try.func25, Try.ntmps25
    go_upto_region 1 with (fail)
    generalize hwa : World.alloc (World.alloc (World.alloc w _) _) _ = wa
    have hb0 : Below w.heap.size w wa := by rw [← hwa]; exact (((Below.refl _ _).alloc (Nat.le_refl _) _).alloc (by simp) _).alloc (by simp; omega) _
    have hkb : Blk wa w.heap.size 28 #[.int .i64 (most : Int), .slice A n c, .slice Af fl cf] := by rw [← hwa]; exact ((Blk.new _ _ _).alloc _).alloc _
    have hkh : Blk wa (w.heap.size + 1) 43 #[.int .i64 s, .int .i64 u] := by rw [← hwa]; exact (blk_at (by simp)).alloc _
    have hk2 : ∃ z : Array Value, Blk wa (w.heap.size + 2) 38 z ∧ z.size = 41 := by rw [← hwa]; exact ⟨_, heap_alloc_at _ _ _ (by simp), rfl⟩
    obtain ⟨z, hk2, hz41⟩ := hk2
    have x1 : wa.cell? ⟨w.heap.size, 1, none⟩ = some (.slice A n c) := hkb.cell 1
    have k0 : wa.cell? ⟨w.heap.size + 1, 0, none⟩ = some (.int .i64 s) := hkh.cell 0
    have k1 : wa.cell? ⟨w.heap.size + 1, 1, none⟩ = some (.int .i64 u) := hkh.cell 1
    have HB0 := Lib.hid hb0
    have HK2 := Lib.hid hk2
    have HKB := Lib.hid hkb
    have HKH := Lib.hid hkh
    have hz0 := hb0.size
    clear hwa hb0 hk2 hkb hkh
    go_quiet (fail)
    generalize hwq : World.drewN wa nq = w1
    have hbq : Below wa.heap.size wa w1 := by rw [← hwq]; exact below_drewN (Below.refl _ wa) nq
    have HB1 := Lib.hid (HB0.out.trans (hbq.mono hz0))
    have hk3 := HK2.out.below hbq HK2.out.lt
    have HK3 := Lib.hid hk3
    have hzq := hbq.size
    have qs : StoOk 41 w1 (.pointer (some ⟨w.heap.size + 2, 0, none⟩)) (.agg #[Value.int .u8 0, Value.int .u8 0, Value.int .u8 0, Value.int .u8 0, Value.int .u8 0, Value.int .u8 0, Value.int .u8 0, Value.int .u8 0, Value.int .u8 0, Value.int .u8 0, Value.int .u8 0, Value.int .u8 0, Value.int .u8 0, Value.int .u8 0, Value.int .u8 0, Value.int .u8 0, Value.int .u8 0, Value.int .u8 0, Value.int .u8 0, Value.int .u8 0, Value.int .u8 0, Value.int .u8 0, Value.int .u8 0, Value.int .u8 0, Value.int .u8 0, Value.int .u8 0, Value.int .u8 0, Value.int .u8 0, Value.int .u8 0, Value.int .u8 0, Value.int .u8 0, Value.int .u8 0, .slice none 0 0, .string { data := #[] }, .int .u64 0, .int .u64 0, .int .u64 0, .int .i64 0, .int .i64 0, .int .i64 0, .slice none 0 0]) := by
      have h1 : StoOk 41 w1 (.pointer (some ⟨w.heap.size + 2, 0, none⟩)) (.agg (entCells ent0 (.slice none 0 0) (.slice none 0 0)).toArray) := ⟨_, 0, _, rfl, rfl, entCells_len _ _ _, blk_there hk3 (by omega), entCells_one rfl rfl⟩
      rw [← entLit0_eq] at h1
      exact h1
    clear hwq hbq hk3 HKB HKH
    go_wp2_with fail
    have hrr := setCells_whole HK3.out (hz41.trans (entCells_len ent0 (.slice none 0 0) (.slice none 0 0)).symm)
    have e0 : storeMid w1 (.pointer (some ⟨w.heap.size + 2, 0, none⟩)) (.agg entLit0) = w1.setCells (w.heap.size + 2) 0 (entCells ent0 (.slice none 0 0) (.slice none 0 0)) := by rw [entLit0_eq]; exact storeMid_eq _ _ _ _
    have e1 : storeMid w1 (.pointer (some ⟨w.heap.size + 2, 0, none⟩)) (.agg #[Value.int .u8 0, Value.int .u8 0, Value.int .u8 0, Value.int .u8 0, Value.int .u8 0, Value.int .u8 0, Value.int .u8 0, Value.int .u8 0, Value.int .u8 0, Value.int .u8 0, Value.int .u8 0, Value.int .u8 0, Value.int .u8 0, Value.int .u8 0, Value.int .u8 0, Value.int .u8 0, Value.int .u8 0, Value.int .u8 0, Value.int .u8 0, Value.int .u8 0, Value.int .u8 0, Value.int .u8 0, Value.int .u8 0, Value.int .u8 0, Value.int .u8 0, Value.int .u8 0, Value.int .u8 0, Value.int .u8 0, Value.int .u8 0, Value.int .u8 0, Value.int .u8 0, Value.int .u8 0, .slice none 0 0, .string { data := #[] }, .int .u64 0, .int .u64 0, .int .u64 0, .int .i64 0, .int .i64 0, .int .i64 0, .slice none 0 0]) = w1.setCells (w.heap.size + 2) 0 (entCells ent0 (.slice none 0 0) (.slice none 0 0)) := e0
    rw [e1]
    have oo := setCells_only (fun g => g = w.heap.size + 2) w1 (w.heap.size + 2) 0 (entCells ent0 (.slice none 0 0) (.slice none 0 0)) (.inl rfl)
    exact bodyPost_ret (results_cell_tmp rfl _ _ (w.heap.size + 2) _ (entCells ent0 (.slice none 0 0) (.slice none 0 0)).toArray (0, 0) _ rfl hrr Try.underlying38 rfl (by rw [List.size_toArray, entCells_len]; kernel_rfl)) rfl ⟨rfl, Only.below_trans HB1.out oo HB1.out.size (fun g hg => by omega)⟩
  obtain ⟨i, rfl⟩ : ∃ i : Nat, s = (i : Int) := ⟨s.toNat, by omega⟩
  clear hs0
  by_cases hin : i < n
  · --IN
    obtain ⟨r, hr⟩ : ∃ r, L[i]? = some r := ⟨L[i]'(by have := HN.out; omega), List.getElem?_eq_getElem _⟩
    have hp : m.pl[i]? = some r.p := by rw [← HS.out.eq, List.getElem?_map, hr]; rfl
    obtain ⟨g, c', hv, _, _, hcell, hrg, _⟩ := HS.out.at_ hr
    injection hv with h1 _ h3
    subst h1
    subst h3
    have z0 : w.cell? ⟨g, i * 43, none⟩ = some (.bool r.p.full) := hcell 0 (by omega)
    have z1 : w.cell? ⟨g, i * 43 + 1, none⟩ = some (.int .i64 (r.p.uses : Int)) := hcell 1 (by omega)
    have hgl := World.block_lt_of_cell? w _ z1
    have hus := HW.out.uses r.p (List.mem_of_getElem? hp)
    have hat := RSt.ok_at hp u
    obtain ⟨us, hus'⟩ : ∃ x, r.p.uses = x := ⟨_, rfl⟩
    rw [hus'] at z1 hus hat
    have g1 : IntKind.i64.wrap ((us : Int) - 1) = (us : Int) - 1 := IntWalk.i64_in _ (by omega)
    have t1 : ¬ (i : Int) < 0 := by omega
    have t1' : decide ((i : Int) < 0) = false := by simp
    have t2 : ¬ (n : Int) ≤ (i : Int) := by omega
    have t2' : decide ((n : Int) ≤ (i : Int)) = false := by simp; omega
    have t3 : (i : Int) < (n : Int) := by omega
    have t0 : (0 : Int) ≤ (i : Int) := by omega
    cases hf : r.p.full with
    | false =>
      rw [hf] at z0
      clear hno hat hcell hrg hr hp hus' hf
      go_enter Try.func25, Try.ntmps25
      go_upto_region 1 with (fail)
      generalize hwa : World.alloc (World.alloc (World.alloc w _) _) _ = wa
      have hb0 : Below w.heap.size w wa := by rw [← hwa]; exact (((Below.refl _ _).alloc (Nat.le_refl _) _).alloc (by simp) _).alloc (by simp; omega) _
      have hkb : Blk wa w.heap.size 28 #[.int .i64 (most : Int), .slice (some ⟨g, 0, none⟩) n c, .slice Af fl cf] := by rw [← hwa]; exact ((Blk.new _ _ _).alloc _).alloc _
      have hkh : Blk wa (w.heap.size + 1) 43 #[.int .i64 (i : Int), .int .i64 u] := by rw [← hwa]; exact (blk_at (by simp)).alloc _
      have hk2 : ∃ z : Array Value, Blk wa (w.heap.size + 2) 38 z ∧ z.size = 41 := by rw [← hwa]; exact ⟨_, heap_alloc_at _ _ _ (by simp), rfl⟩
      obtain ⟨z, hk2, hz41⟩ := hk2
      have x1 : wa.cell? ⟨w.heap.size, 1, none⟩ = some (.slice (some ⟨g, 0, none⟩) n c) := hkb.cell 1
      have k0 : wa.cell? ⟨w.heap.size + 1, 0, none⟩ = some (.int .i64 (i : Int)) := hkh.cell 0
      have k1 : wa.cell? ⟨w.heap.size + 1, 1, none⟩ = some (.int .i64 u) := hkh.cell 1
      have HB0 := Lib.hid hb0
      have HK2 := Lib.hid hk2
      have HKB := Lib.hid hkb
      have HKH := Lib.hid hkh
      have hz0 := hb0.size
      have z0 := (hb0.cell (p := ⟨g, i * 43, none⟩) hgl).trans z0
      have z1 := (hb0.cell (p := ⟨g, i * 43 + 1, none⟩) hgl).trans z1
      clear hwa hb0 hk2 hkb hkh
      go_quiet (fail)
      generalize hwq : World.drewN wa nq = w1
      have hbq : Below wa.heap.size wa w1 := by rw [← hwq]; exact below_drewN (Below.refl _ wa) nq
      have HB1 := Lib.hid (HB0.out.trans (hbq.mono hz0))
      have hk3 := HK2.out.below hbq HK2.out.lt
      have HK3 := Lib.hid hk3
      have hzq := hbq.size
      have qs : StoOk 41 w1 (.pointer (some ⟨w.heap.size + 2, 0, none⟩)) (.agg #[Value.int .u8 0, Value.int .u8 0, Value.int .u8 0, Value.int .u8 0, Value.int .u8 0, Value.int .u8 0, Value.int .u8 0, Value.int .u8 0, Value.int .u8 0, Value.int .u8 0, Value.int .u8 0, Value.int .u8 0, Value.int .u8 0, Value.int .u8 0, Value.int .u8 0, Value.int .u8 0, Value.int .u8 0, Value.int .u8 0, Value.int .u8 0, Value.int .u8 0, Value.int .u8 0, Value.int .u8 0, Value.int .u8 0, Value.int .u8 0, Value.int .u8 0, Value.int .u8 0, Value.int .u8 0, Value.int .u8 0, Value.int .u8 0, Value.int .u8 0, Value.int .u8 0, Value.int .u8 0, .slice none 0 0, .string { data := #[] }, .int .u64 0, .int .u64 0, .int .u64 0, .int .i64 0, .int .i64 0, .int .i64 0, .slice none 0 0]) := by
        have h1 : StoOk 41 w1 (.pointer (some ⟨w.heap.size + 2, 0, none⟩)) (.agg (entCells ent0 (.slice none 0 0) (.slice none 0 0)).toArray) := ⟨_, 0, _, rfl, rfl, entCells_len _ _ _, blk_there hk3 (by omega), entCells_one rfl rfl⟩
        rw [← entLit0_eq] at h1
        exact h1
      clear hwq hbq hk3 HKB HKH
      go_wp2_with fail
      have hrr := setCells_whole HK3.out (hz41.trans (entCells_len ent0 (.slice none 0 0) (.slice none 0 0)).symm)
      have e0 : storeMid w1 (.pointer (some ⟨w.heap.size + 2, 0, none⟩)) (.agg entLit0) = w1.setCells (w.heap.size + 2) 0 (entCells ent0 (.slice none 0 0) (.slice none 0 0)) := by rw [entLit0_eq]; exact storeMid_eq _ _ _ _
      have e1 : storeMid w1 (.pointer (some ⟨w.heap.size + 2, 0, none⟩)) (.agg #[Value.int .u8 0, Value.int .u8 0, Value.int .u8 0, Value.int .u8 0, Value.int .u8 0, Value.int .u8 0, Value.int .u8 0, Value.int .u8 0, Value.int .u8 0, Value.int .u8 0, Value.int .u8 0, Value.int .u8 0, Value.int .u8 0, Value.int .u8 0, Value.int .u8 0, Value.int .u8 0, Value.int .u8 0, Value.int .u8 0, Value.int .u8 0, Value.int .u8 0, Value.int .u8 0, Value.int .u8 0, Value.int .u8 0, Value.int .u8 0, Value.int .u8 0, Value.int .u8 0, Value.int .u8 0, Value.int .u8 0, Value.int .u8 0, Value.int .u8 0, Value.int .u8 0, Value.int .u8 0, .slice none 0 0, .string { data := #[] }, .int .u64 0, .int .u64 0, .int .u64 0, .int .i64 0, .int .i64 0, .int .i64 0, .slice none 0 0]) = w1.setCells (w.heap.size + 2) 0 (entCells ent0 (.slice none 0 0) (.slice none 0 0)) := e0
      rw [e1]
      have oo := setCells_only (fun g => g = w.heap.size + 2) w1 (w.heap.size + 2) 0 (entCells ent0 (.slice none 0 0) (.slice none 0 0)) (.inl rfl)
      exact bodyPost_ret (results_cell_tmp rfl _ _ (w.heap.size + 2) _ (entCells ent0 (.slice none 0 0) (.slice none 0 0)).toArray (0, 0) _ rfl hrr Try.underlying38 rfl (by rw [List.size_toArray, entCells_len]; kernel_rfl)) rfl ⟨rfl, Only.below_trans HB1.out oo HB1.out.size (fun g hg => by omega)⟩
    | true =>
      rw [hf] at z0 hat
      rw [hno, Bool.true_and] at hat
      have t5 : ¬ (us : Int) - 1 = u := by simpa using hat.symm
      have t5' : ((us : Int) - 1 != u) = true := bne_iff_ne.mpr t5
      clear hno hat hcell hrg hr hp hus' hf
      go_enter Try.func25, Try.ntmps25
      go_upto_region 1 with (fail)
      generalize hwa : World.alloc (World.alloc (World.alloc w _) _) _ = wa
      have hb0 : Below w.heap.size w wa := by rw [← hwa]; exact (((Below.refl _ _).alloc (Nat.le_refl _) _).alloc (by simp) _).alloc (by simp; omega) _
      have hkb : Blk wa w.heap.size 28 #[.int .i64 (most : Int), .slice (some ⟨g, 0, none⟩) n c, .slice Af fl cf] := by rw [← hwa]; exact ((Blk.new _ _ _).alloc _).alloc _
      have hkh : Blk wa (w.heap.size + 1) 43 #[.int .i64 (i : Int), .int .i64 u] := by rw [← hwa]; exact (blk_at (by simp)).alloc _
      have hk2 : ∃ z : Array Value, Blk wa (w.heap.size + 2) 38 z ∧ z.size = 41 := by rw [← hwa]; exact ⟨_, heap_alloc_at _ _ _ (by simp), rfl⟩
      obtain ⟨z, hk2, hz41⟩ := hk2
      have x1 : wa.cell? ⟨w.heap.size, 1, none⟩ = some (.slice (some ⟨g, 0, none⟩) n c) := hkb.cell 1
      have k0 : wa.cell? ⟨w.heap.size + 1, 0, none⟩ = some (.int .i64 (i : Int)) := hkh.cell 0
      have k1 : wa.cell? ⟨w.heap.size + 1, 1, none⟩ = some (.int .i64 u) := hkh.cell 1
      have HB0 := Lib.hid hb0
      have HK2 := Lib.hid hk2
      have HKB := Lib.hid hkb
      have HKH := Lib.hid hkh
      have hz0 := hb0.size
      have z0 := (hb0.cell (p := ⟨g, i * 43, none⟩) hgl).trans z0
      have z1 := (hb0.cell (p := ⟨g, i * 43 + 1, none⟩) hgl).trans z1
      clear hwa hb0 hk2 hkb hkh
      go_quiet (fail)
      generalize hwq : World.drewN wa nq = w1
      have hbq : Below wa.heap.size wa w1 := by rw [← hwq]; exact below_drewN (Below.refl _ wa) nq
      have HB1 := Lib.hid (HB0.out.trans (hbq.mono hz0))
      have hk3 := HK2.out.below hbq HK2.out.lt
      have HK3 := Lib.hid hk3
      have hzq := hbq.size
      have qs : StoOk 41 w1 (.pointer (some ⟨w.heap.size + 2, 0, none⟩)) (.agg #[Value.int .u8 0, Value.int .u8 0, Value.int .u8 0, Value.int .u8 0, Value.int .u8 0, Value.int .u8 0, Value.int .u8 0, Value.int .u8 0, Value.int .u8 0, Value.int .u8 0, Value.int .u8 0, Value.int .u8 0, Value.int .u8 0, Value.int .u8 0, Value.int .u8 0, Value.int .u8 0, Value.int .u8 0, Value.int .u8 0, Value.int .u8 0, Value.int .u8 0, Value.int .u8 0, Value.int .u8 0, Value.int .u8 0, Value.int .u8 0, Value.int .u8 0, Value.int .u8 0, Value.int .u8 0, Value.int .u8 0, Value.int .u8 0, Value.int .u8 0, Value.int .u8 0, Value.int .u8 0, .slice none 0 0, .string { data := #[] }, .int .u64 0, .int .u64 0, .int .u64 0, .int .i64 0, .int .i64 0, .int .i64 0, .slice none 0 0]) := by
        have h1 : StoOk 41 w1 (.pointer (some ⟨w.heap.size + 2, 0, none⟩)) (.agg (entCells ent0 (.slice none 0 0) (.slice none 0 0)).toArray) := ⟨_, 0, _, rfl, rfl, entCells_len _ _ _, blk_there hk3 (by omega), entCells_one rfl rfl⟩
        rw [← entLit0_eq] at h1
        exact h1
      clear hwq hbq hk3 HKB HKH
      go_wp2_with fail
      have hrr := setCells_whole HK3.out (hz41.trans (entCells_len ent0 (.slice none 0 0) (.slice none 0 0)).symm)
      have e0 : storeMid w1 (.pointer (some ⟨w.heap.size + 2, 0, none⟩)) (.agg entLit0) = w1.setCells (w.heap.size + 2) 0 (entCells ent0 (.slice none 0 0) (.slice none 0 0)) := by rw [entLit0_eq]; exact storeMid_eq _ _ _ _
      have e1 : storeMid w1 (.pointer (some ⟨w.heap.size + 2, 0, none⟩)) (.agg #[Value.int .u8 0, Value.int .u8 0, Value.int .u8 0, Value.int .u8 0, Value.int .u8 0, Value.int .u8 0, Value.int .u8 0, Value.int .u8 0, Value.int .u8 0, Value.int .u8 0, Value.int .u8 0, Value.int .u8 0, Value.int .u8 0, Value.int .u8 0, Value.int .u8 0, Value.int .u8 0, Value.int .u8 0, Value.int .u8 0, Value.int .u8 0, Value.int .u8 0, Value.int .u8 0, Value.int .u8 0, Value.int .u8 0, Value.int .u8 0, Value.int .u8 0, Value.int .u8 0, Value.int .u8 0, Value.int .u8 0, Value.int .u8 0, Value.int .u8 0, Value.int .u8 0, Value.int .u8 0, .slice none 0 0, .string { data := #[] }, .int .u64 0, .int .u64 0, .int .u64 0, .int .i64 0, .int .i64 0, .int .i64 0, .slice none 0 0]) = w1.setCells (w.heap.size + 2) 0 (entCells ent0 (.slice none 0 0) (.slice none 0 0)) := e0
      rw [e1]
      have oo := setCells_only (fun g => g = w.heap.size + 2) w1 (w.heap.size + 2) 0 (entCells ent0 (.slice none 0 0) (.slice none 0 0)) (.inl rfl)
      exact bodyPost_ret (results_cell_tmp rfl _ _ (w.heap.size + 2) _ (entCells ent0 (.slice none 0 0) (.slice none 0 0)).toArray (0, 0) _ rfl hrr Try.underlying38 rfl (by rw [List.size_toArray, entCells_len]; kernel_rfl)) rfl ⟨rfl, Only.below_trans HB1.out oo HB1.out.size (fun g hg => by omega)⟩
  · have t1 : ¬ (i : Int) < 0 := by omega
    have t1' : decide ((i : Int) < 0) = false := by simp
    have t2 : (n : Int) ≤ (i : Int) := by omega
    have t2' : decide ((n : Int) ≤ (i : Int)) = true := by simp; omega
    clear hno
    go_enter Try.func25, Try.ntmps25
    go_upto_region 1 with (fail)
    generalize hwa : World.alloc (World.alloc (World.alloc w _) _) _ = wa
    have hb0 : Below w.heap.size w wa := by rw [← hwa]; exact (((Below.refl _ _).alloc (Nat.le_refl _) _).alloc (by simp) _).alloc (by simp; omega) _
    have hkb : Blk wa w.heap.size 28 #[.int .i64 (most : Int), .slice A n c, .slice Af fl cf] := by rw [← hwa]; exact ((Blk.new _ _ _).alloc _).alloc _
    have hkh : Blk wa (w.heap.size + 1) 43 #[.int .i64 (i : Int), .int .i64 u] := by rw [← hwa]; exact (blk_at (by simp)).alloc _
    have hk2 : ∃ z : Array Value, Blk wa (w.heap.size + 2) 38 z ∧ z.size = 41 := by rw [← hwa]; exact ⟨_, heap_alloc_at _ _ _ (by simp), rfl⟩
    obtain ⟨z, hk2, hz41⟩ := hk2
    have x1 : wa.cell? ⟨w.heap.size, 1, none⟩ = some (.slice A n c) := hkb.cell 1
    have k0 : wa.cell? ⟨w.heap.size + 1, 0, none⟩ = some (.int .i64 (i : Int)) := hkh.cell 0
    have k1 : wa.cell? ⟨w.heap.size + 1, 1, none⟩ = some (.int .i64 u) := hkh.cell 1
    have HB0 := Lib.hid hb0
    have HK2 := Lib.hid hk2
    have HKB := Lib.hid hkb
    have HKH := Lib.hid hkh
    have hz0 := hb0.size
    clear hwa hb0 hk2 hkb hkh
    go_quiet (fail)
    generalize hwq : World.drewN wa nq = w1
    have hbq : Below wa.heap.size wa w1 := by rw [← hwq]; exact below_drewN (Below.refl _ wa) nq
    have HB1 := Lib.hid (HB0.out.trans (hbq.mono hz0))
    have hk3 := HK2.out.below hbq HK2.out.lt
    have HK3 := Lib.hid hk3
    have hzq := hbq.size
    have qs : StoOk 41 w1 (.pointer (some ⟨w.heap.size + 2, 0, none⟩)) (.agg #[Value.int .u8 0, Value.int .u8 0, Value.int .u8 0, Value.int .u8 0, Value.int .u8 0, Value.int .u8 0, Value.int .u8 0, Value.int .u8 0, Value.int .u8 0, Value.int .u8 0, Value.int .u8 0, Value.int .u8 0, Value.int .u8 0, Value.int .u8 0, Value.int .u8 0, Value.int .u8 0, Value.int .u8 0, Value.int .u8 0, Value.int .u8 0, Value.int .u8 0, Value.int .u8 0, Value.int .u8 0, Value.int .u8 0, Value.int .u8 0, Value.int .u8 0, Value.int .u8 0, Value.int .u8 0, Value.int .u8 0, Value.int .u8 0, Value.int .u8 0, Value.int .u8 0, Value.int .u8 0, .slice none 0 0, .string { data := #[] }, .int .u64 0, .int .u64 0, .int .u64 0, .int .i64 0, .int .i64 0, .int .i64 0, .slice none 0 0]) := by
      have h1 : StoOk 41 w1 (.pointer (some ⟨w.heap.size + 2, 0, none⟩)) (.agg (entCells ent0 (.slice none 0 0) (.slice none 0 0)).toArray) := ⟨_, 0, _, rfl, rfl, entCells_len _ _ _, blk_there hk3 (by omega), entCells_one rfl rfl⟩
      rw [← entLit0_eq] at h1
      exact h1
    clear hwq hbq hk3 HKB HKH
    go_wp2_with fail
    have hrr := setCells_whole HK3.out (hz41.trans (entCells_len ent0 (.slice none 0 0) (.slice none 0 0)).symm)
    have e0 : storeMid w1 (.pointer (some ⟨w.heap.size + 2, 0, none⟩)) (.agg entLit0) = w1.setCells (w.heap.size + 2) 0 (entCells ent0 (.slice none 0 0) (.slice none 0 0)) := by rw [entLit0_eq]; exact storeMid_eq _ _ _ _
    have e1 : storeMid w1 (.pointer (some ⟨w.heap.size + 2, 0, none⟩)) (.agg #[Value.int .u8 0, Value.int .u8 0, Value.int .u8 0, Value.int .u8 0, Value.int .u8 0, Value.int .u8 0, Value.int .u8 0, Value.int .u8 0, Value.int .u8 0, Value.int .u8 0, Value.int .u8 0, Value.int .u8 0, Value.int .u8 0, Value.int .u8 0, Value.int .u8 0, Value.int .u8 0, Value.int .u8 0, Value.int .u8 0, Value.int .u8 0, Value.int .u8 0, Value.int .u8 0, Value.int .u8 0, Value.int .u8 0, Value.int .u8 0, Value.int .u8 0, Value.int .u8 0, Value.int .u8 0, Value.int .u8 0, Value.int .u8 0, Value.int .u8 0, Value.int .u8 0, Value.int .u8 0, .slice none 0 0, .string { data := #[] }, .int .u64 0, .int .u64 0, .int .u64 0, .int .i64 0, .int .i64 0, .int .i64 0, .slice none 0 0]) = w1.setCells (w.heap.size + 2) 0 (entCells ent0 (.slice none 0 0) (.slice none 0 0)) := e0
    rw [e1]
    have oo := setCells_only (fun g => g = w.heap.size + 2) w1 (w.heap.size + 2) 0 (entCells ent0 (.slice none 0 0) (.slice none 0 0)) (.inl rfl)
    exact bodyPost_ret (results_cell_tmp rfl _ _ (w.heap.size + 2) _ (entCells ent0 (.slice none 0 0) (.slice none 0 0)).toArray (0, 0) _ rfl hrr Try.underlying38 rfl (by rw [List.size_toArray, entCells_len]; kernel_rfl)) rfl ⟨rfl, Only.below_trans HB1.out oo HB1.out.size (fun g hg => by omega)⟩

/-- what GetEntry hands back: the row of the place itself -/
def GetRPost (w : World) (B : Nat) (e : Ent) (ed : Ending) (w' : World) : Prop := ∃ rv pv, ed = .returned (.tuple #[entV e rv pv, .bool true]) ∧ Below w.heap.size w w' ∧ EntAt w' B e rv pv
set_option maxRecDepth 100000 in
set_option maxHeartbeats 4000000 in
attribute [local go_sem ↓] wp_load_ent wp_store_ent in
theorem rgetr_ok (w : World) (B : Nat) (pv fv : Value) (m : RSt) (L : List PRow) (k : Nat) (h : RefS w B pv fv m L) (hw : WfR m k) (hk : k ≤ 2000) (i : Nat) (u : Int) (p : Plc) (hpp : m.pl[i]? = some p) (hf : p.full = true) (hu : (p.uses : Int) - 1 = u) :
    Calls Try.prog 25 #[storeV m pv fv, hdl (i : Int) u] w (GetRPost w B p.e) := by
  have hil := (List.getElem?_eq_some_iff.1 hpp).1
  obtain ⟨A, c, rfl⟩ := own_form h.row
  obtain ⟨Af, cf, rfl⟩ := own_form h.fre
  obtain ⟨n, hn⟩ : ∃ n, L.length = n := ⟨_, rfl⟩
  have hml := h.len
  have hwl := hw.len
  rw [hn] at hml ⊢
  obtain ⟨most, hmo⟩ : ∃ x, m.most = x := ⟨_, rfl⟩
  obtain ⟨fl, hfl⟩ : ∃ x, m.fr.length = x := ⟨_, rfl⟩
  show Calls _ _ #[.agg #[.int .i64 (m.most : Int), _, _], _] _ _
  rw [hmo, hfl]
  have HS := Lib.hid h
  have HW := Lib.hid hw
  have HN := Lib.hid hn
  have HML := Lib.hid hml
  have hn2 : n ≤ 2000 := by omega
  have hin : i < n := by omega
  clear h hw hn hmo hfl hml hwl
  obtain ⟨r, hr⟩ : ∃ r, L[i]? = some r := ⟨L[i]'(by have := HN.out; omega), List.getElem?_eq_getElem _⟩
  have hp : m.pl[i]? = some r.p := by rw [← HS.out.eq, List.getElem?_map, hr]; rfl
  obtain ⟨g, c', hv, _, _, hcell, hrg, _⟩ := HS.out.at_ hr
  injection hv with h1 _ h3
  subst h1
  subst h3
  have z0 : w.cell? ⟨g, i * 43, none⟩ = some (.bool r.p.full) := hcell 0 (by omega)
  have z1 : w.cell? ⟨g, i * 43 + 1, none⟩ = some (.int .i64 (r.p.uses : Int)) := hcell 1 (by omega)
  have hgl := World.block_lt_of_cell? w _ z1
  have hus := HW.out.uses r.p (List.mem_of_getElem? hp)
  have hat := RSt.ok_at hp u
  obtain ⟨us, hus'⟩ : ∃ x, r.p.uses = x := ⟨_, rfl⟩
  rw [hus'] at z1 hus hat
  have g1 : IntKind.i64.wrap ((us : Int) - 1) = (us : Int) - 1 := IntWalk.i64_in _ (by omega)
  have t1 : ¬ (i : Int) < 0 := by omega
  have t1' : decide ((i : Int) < 0) = false := by simp
  have t2 : ¬ (n : Int) ≤ (i : Int) := by omega
  have t2' : decide ((n : Int) ≤ (i : Int)) = false := by simp; omega
  have t3 : (i : Int) < (n : Int) := by omega
  have t0 : (0 : Int) ≤ (i : Int) := by omega
  obtain rfl : r.p = p := by rw [hp] at hpp; injection hpp
  rw [hf] at z0
  rw [hus'] at hu
  have t5 : ((us : Int) - 1 != u) = false := by rw [hu]; simp
  have hre : w.rangeAt g (i * 43 + 2) (entCells r.p.e r.rv r.pv) := fun j v hj => by
    have h1 := hrg (2 + j) v (by unfold PRow.cells; rw [List.getElem?_append_right (by simp)]; simpa using hj)
    rw [show i * 43 + 2 + j = i * 43 + (2 + j) by omega]; exact h1
  have HRE := Lib.hid hre
  have HEN := Lib.hid (HS.out.ent r (List.mem_of_getElem? hr))
  clear hat hcell hrg hr hp hpp hus' hf hre
  go_enter Try.func25, Try.ntmps25
  go_upto_region 1 with (fail)
  generalize hwa : World.alloc (World.alloc (World.alloc w _) _) _ = wa
  have hb0 : Below w.heap.size w wa := by rw [← hwa]; exact (((Below.refl _ _).alloc (Nat.le_refl _) _).alloc (by simp) _).alloc (by simp; omega) _
  have hkb : Blk wa w.heap.size 28 #[.int .i64 (most : Int), .slice (some ⟨g, 0, none⟩) n c, .slice Af fl cf] := by rw [← hwa]; exact ((Blk.new _ _ _).alloc _).alloc _
  have hkh : Blk wa (w.heap.size + 1) 43 #[.int .i64 (i : Int), .int .i64 u] := by rw [← hwa]; exact (blk_at (by simp)).alloc _
  have hk2 : ∃ z : Array Value, Blk wa (w.heap.size + 2) 38 z ∧ z.size = 41 := by rw [← hwa]; exact ⟨_, heap_alloc_at _ _ _ (by simp), rfl⟩
  obtain ⟨z, hk2, hz41⟩ := hk2
  have x1 : wa.cell? ⟨w.heap.size, 1, none⟩ = some (.slice (some ⟨g, 0, none⟩) n c) := hkb.cell 1
  have k0 : wa.cell? ⟨w.heap.size + 1, 0, none⟩ = some (.int .i64 (i : Int)) := hkh.cell 0
  have k1 : wa.cell? ⟨w.heap.size + 1, 1, none⟩ = some (.int .i64 u) := hkh.cell 1
  have HB0 := Lib.hid hb0
  have HK2 := Lib.hid hk2
  have HKB := Lib.hid hkb
  have HKH := Lib.hid hkh
  have hz0 := hb0.size
  have z0 := (hb0.cell (p := ⟨g, i * 43, none⟩) hgl).trans z0
  have z1 := (hb0.cell (p := ⟨g, i * 43 + 1, none⟩) hgl).trans z1
  clear hwa hb0 hk2 hkb hkh
  go_quiet (fail)
  generalize hwq : World.drewN wa nq = w1
  have hbq : Below wa.heap.size wa w1 := by rw [← hwq]; exact below_drewN (Below.refl _ wa) nq
  have HB1 := Lib.hid (HB0.out.trans (hbq.mono hz0))
  have hk3 := HK2.out.below hbq HK2.out.lt
  have HK3 := Lib.hid hk3
  have hzq := hbq.size
  have x1 : w1.cell? ⟨w.heap.size, 1, none⟩ = some (.slice (some ⟨g, 0, none⟩) n c) := (HKB.out.below hbq HKB.out.lt).cell 1
  have k0 : w1.cell? ⟨w.heap.size + 1, 0, none⟩ = some (.int .i64 (i : Int)) := (HKH.out.below hbq HKH.out.lt).cell 0
  have hr1 : w1.rangeAt g (i * 43 + 2) (entCells r.p.e r.rv r.pv) := fun j v hj => (HB1.out.cell (p := ⟨g, i * 43 + 2 + j, none⟩) hgl).trans (HRE.out j v hj)
  have qa : AggOk 41 w1 (.pointer (some ⟨g, i * 43 + 2, none⟩)) := aggOk_mk hr1 (entCells_len _ _ _)
  have ld := loadN_eq (n := 41) hr1 (entCells_len _ _ _)
  have he1 := HEN.out.below HB1.out
  have qs : StoOk 41 w1 (.pointer (some ⟨w.heap.size + 2, 0, none⟩)) (.agg (entCells r.p.e r.rv r.pv).toArray) := ⟨_, 0, _, rfl, rfl, entCells_len _ _ _, blk_there hk3 (by omega), he1.one⟩
  have HE1 := Lib.hid he1
  clear hwq hbq hk3 HKB HKH hr1 he1 z0 z1
  go_wp2_with fail
  have hrr := setCells_whole HK3.out (hz41.trans (entCells_len r.p.e r.rv r.pv).symm)
  have e0 : storeMid w1 (.pointer (some ⟨w.heap.size + 2, 0, none⟩)) (.agg (entCells r.p.e r.rv r.pv).toArray) = w1.setCells (w.heap.size + 2) 0 (entCells r.p.e r.rv r.pv) := storeMid_eq _ _ _ _
  rw [e0]
  have oo := setCells_only (fun g => g = w.heap.size + 2) w1 (w.heap.size + 2) 0 (entCells r.p.e r.rv r.pv) (.inl rfl)
  refine bodyPost_ret (results_cell_tmp rfl _ _ (w.heap.size + 2) _ (entCells r.p.e r.rv r.pv).toArray (0, 0) _ rfl hrr Try.underlying38 rfl (by rw [List.size_toArray, entCells_len]; kernel_rfl)) rfl ⟨r.rv, r.pv, rfl, Only.below_trans HB1.out oo HB1.out.size (fun g hg => by omega), ?_⟩
  exact HE1.out.only oo (fun k h1 h2 => own_blk_ne HE1.out.raw HK3.out (by decide) (h2 ▸ h1)) (fun k h1 h2 => own_blk_ne HE1.out.peers HK3.out (by decide) (h2 ▸ h1))
end Go.Proofs.Ytnihkjhejjeepaa
