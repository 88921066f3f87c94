/- The store of entries: Add, the walks. -/
import Derived.Test.YtnihkjhejjeepaaSlb4
import Derived.Deep.RegionHeld3
import Derived.Outline
namespace Go.Proofs.Ytnihkjhejjeepaa
open Go.RowKit
set_option linter.unusedVariables false
set_option linter.unusedSimpArgs false
open ShaW Sha

theorem slot_info : (Try.prog.info? 75).map (fun i => (i.zero, i.size, i.bytes)) = some (some (.agg (freeLit 0 0)), 44, 168) := by kernel_rfl
theorem slot_fill (ie : TypeInfo) (hs : ie.size = 44) : Instr.fill (fun i => some (i * ie.size, ie.size)) ((Array.range (1 * ie.size)).map ((Value.agg (freeLit 0 0)).cells[· % (Value.agg (freeLit 0 0)).cells.size]!)) [(0, .agg (freeLit 0 0))] = some (freeRow 0 0).cells.toArray := by
  rw [hs]
  kernel_rfl
theorem slot_reads (W : World) : Reads (W.alloc (.cells (freeRow 0 0).cells.toArray 75)) (W.alloc (.cells (freeRow 0 0).cells.toArray 75)).heap.size 44 (some ⟨W.heap.size, 0, none⟩) 1 (freeRow 0 0).cells := by
  refine ⟨by rw [SRow.len], fun _ => ⟨⟨W.heap.size, 0, none⟩, rfl, by rw [World.size_alloc]; exact Nat.lt_succ_self _, fun j u hu => ?_⟩⟩
  rw [add_flat, Nat.zero_add, lit_cell]
  exact List.getElem?_toArray.trans hu
theorem owns_from {w : World} {base base' n : Nat} {e : TypeId} {size : Nat} {v : Value} {xs : List Value} {w0 : World} (h : w.ownsRow base e size v n xs) (h' : w0.ownsRow base' e size v n xs) : w.ownsRow base' e size v n xs := by
  refine ⟨h.1, ?_⟩
  rcases h.2 with h2 | ⟨g, cap, cur, h1, h2, h3⟩
  · exact .inl h2
  · rcases h'.2 with ⟨k1, _⟩ | ⟨g', cap', cur', k1, k2, _⟩
    · rw [h1] at k1; cases k1
    · rw [h1] at k1
      injection k1 with k1
      injection k1 with k1
      injection k1 with k1
      exact .inr ⟨g, cap, cur, h1, by omega, h3⟩
/-- what Add leaves: a handle, and the store -/
def AddPost (w : World) (B C most : Nat) (L1 : List SRow) (i : Nat) (r1 : SRow) (size : Nat) (free : Int) (e : Ent) (ed : Ending) (w' : World) : Prop :=
  ed = .returned (.tuple #[hdl (i : Int) (r1.s.use : Int), .bool true]) ∧ Only (SFoot w B) w w' ∧ ∃ sv rv pv, SlAt w' B C most (L1.set i (fullRow e r1 rv pv)) sv size free ∧ EntAt w' w.heap.size e rv pv
set_option maxRecDepth 100000 in
set_option maxHeartbeats 4000000 in
attribute [local go_sem ↓] wp_load_ent wp_store_ent in
theorem sadd_full (w : World) (B C most : Nat) (L : List SRow) (sv : Value) (size : Nat) (free : Int) (h : SlAt w B C most L sv size free) (hB : B ≤ w.heap.size) (hl : L.length ≤ 1048576) (hsz2 : size ≤ 1048576) (hm2 : most ≤ 1048576) (hfr : -1 ≤ free ∧ free ≤ 1048576)
    (e : Ent) (rv pv : Value) (he : EntRd w e rv pv) (hrn : e.rn ≤ 1048576) (hpn : e.peers.length ≤ 1048576) (hfull : size = most) :
    Calls Try.prog 14 #[.pointer (some ⟨C, 0, none⟩), entV e rv pv] w (fun ed w' => ed = .returned (.tuple #[hdl 0 0, .bool false]) ∧ Below w.heap.size w w') := by
  obtain ⟨A, c, hsv⟩ := own_form h.row
  obtain ⟨cx, hcx⟩ : ∃ cx, (entCells e rv pv).toArray = cx := ⟨_, rfl⟩
  show Calls _ _ #[_, .agg (entCells e rv pv).toArray] _ _
  rw [hcx]
  obtain ⟨n, hn⟩ : ∃ n, L.length = n := ⟨_, rfl⟩
  have HN := Lib.hid hn
  have HCX := Lib.hid hcx
  have HS := Lib.hid h
  have HE := Lib.hid he
  have HSV := Lib.hid hsv
  rw [hn] at hl
  have t0 : ((size : Int) == (most : Int)) = true := by simp; omega
  clear hcx h he hsv hn
  go_enter Try.func14, Try.ntmps14
  go_upto_region 1 with (fail)
  generalize hwa : World.alloc (World.alloc w _) _ = wa
  have hb0 : Below w.heap.size w wa := by rw [← hwa]; exact ((Below.refl _ _).alloc (Nat.le_refl _) _).alloc (by simp) _
  have hkb : Blk wa w.heap.size 38 (entCells e rv pv).toArray := by rw [← hwa, HCX.out]; exact (Blk.new w _ _).alloc _
  have hkh : Blk wa (w.heap.size + 1) 43 #[.int .i64 0, .int .i64 0] := by rw [← hwa]; exact heap_alloc_at _ _ _ (by simp)
  have hs0 := HS.out.below hb0
  have x0 : wa.cell? ⟨C, 0, none⟩ = some (.int .i64 (most : Int)) := hs0.blk.cell 0
  have x1 : wa.cell? ⟨C, 1, none⟩ = some (.int .i64 (size : Int)) := hs0.blk.cell 1
  have HB0 := Lib.hid hb0
  have HKB := Lib.hid hkb
  have HKH := Lib.hid hkh
  have hz0 := hb0.size
  clear hwa hb0 hkb hkh hs0
  go_quiet (fail)
  generalize hwq : World.drewN wa nq = wb
  have hbq : Below wa.heap.size wa wb := by rw [← hwq]; exact below_drewN (Below.refl _ wa) nq
  have HBQ := Lib.hid (HB0.out.trans (hbq.mono hz0))
  have HSQ := Lib.hid (HS.out.below (HB0.out.trans (hbq.mono hz0)))
  have HKB1 := Lib.hid (HKB.out.below hbq HKB.out.lt)
  have HKH1 := Lib.hid (HKH.out.below hbq HKH.out.lt)
  have hzq : w.heap.size ≤ wb.heap.size := Nat.le_trans hz0 hbq.size
  clear hwq hbq x0 x1 HKB HKH
  have hkh := HKH1.out
  have z0 := hkh.cell 0
  have z1 := hkh.cell 1
  have f0 := hkh.frozen 0
  have f1 := hkh.frozen 1
  simp at z0 z1
  have hhl := hkh.lt
  clear hkh
  go_wp2_with fail
  exact bodyPost_ret (results_cell_tmp rfl _ _ (w.heap.size + 1) _ #[.int .i64 0, .int .i64 0] (0, 0) _ rfl ((HKH1.out.set_ 0 _).set_ 1 _) Try.underlying43 rfl (by kernel_rfl)) rfl ⟨rfl, (HBQ.out.setCell (p := ⟨w.heap.size + 1, 0, none⟩) (by simp) _).setCell (p := ⟨w.heap.size + 1, 1, none⟩) (by simp) _⟩
set_option maxRecDepth 100000 in
set_option maxHeartbeats 4000000 in
attribute [local go_sem ↓] wp_load_ent wp_store_ent in
theorem sadd_reuse (w : World) (B C most : Nat) (L : List SRow) (sv : Value) (size : Nat) (free : Int) (h : SlAt w B C most L sv size free) (hB : B ≤ w.heap.size) (hl : L.length ≤ 1048576) (hsz2 : size ≤ 1048576) (hm2 : most ≤ 1048576) (hfr : -1 ≤ free ∧ free ≤ 1048576)
    (e : Ent) (rv pv : Value) (he : EntRd w e rv pv) (hrn : e.rn ≤ 1048576) (hpn : e.peers.length ≤ 1048576) (hne : size ≠ most) (i : Nat) (r1 : SRow) (hr : L[i]? = some r1) (hfree : free = (i : Int)) (hnx : -1 ≤ r1.s.next ∧ r1.s.next ≤ 1048576) (hus : r1.s.use ≤ 1048576) :
    Calls Try.prog 14 #[.pointer (some ⟨C, 0, none⟩), entV e rv pv] w (AddPost w B C most L i r1 (size + 1) r1.s.next e) := by
  obtain ⟨A, c, hsv⟩ := own_form h.row
  obtain ⟨cx, hcx⟩ : ∃ cx, (entCells e rv pv).toArray = cx := ⟨_, rfl⟩
  show Calls _ _ #[_, .agg (entCells e rv pv).toArray] _ _
  rw [hcx]
  obtain ⟨n, hn⟩ : ∃ n, L.length = n := ⟨_, rfl⟩
  have HN := Lib.hid hn
  have HCX := Lib.hid hcx
  have HS := Lib.hid h
  have HE := Lib.hid he
  have HSV := Lib.hid hsv
  rw [hn] at hl
  have t0 : ((size : Int) == (most : Int)) = false := by simp; omega
  obtain ⟨g, c1, hv, hc1, hc2, hcell, _, _⟩ := h.at_ hr
  have hAe : A = some ⟨g, 0, none⟩ ∧ c = c1 := by rw [hv] at hsv; injection hsv with h1 _ h2; exact ⟨h1.symm, h2.symm⟩
  obtain ⟨rfl, rfl⟩ := hAe
  have hil : i < n := by rw [← hn]; exact (List.getElem?_eq_some_iff.1 hr).1
  have z43 := (hcell 43 (by omega)).trans (cells_next r1)
  have HZ43 := Lib.hid z43
  have hgl := World.block_lt_of_cell? w _ z43
  have HR1 := Lib.hid hr
  rw [hn] at hc1
  subst hfree
  clear hcx h he hsv hn hv hcell z43 hr
  go_enter Try.func14, Try.ntmps14
  go_upto_region 1 with (fail)
  generalize hwa : World.alloc (World.alloc w _) _ = wa
  have hb0 : Below w.heap.size w wa := by rw [← hwa]; exact ((Below.refl _ _).alloc (Nat.le_refl _) _).alloc (by simp) _
  have hkb : Blk wa w.heap.size 38 (entCells e rv pv).toArray := by rw [← hwa, HCX.out]; exact (Blk.new w _ _).alloc _
  have hkh : Blk wa (w.heap.size + 1) 43 #[.int .i64 0, .int .i64 0] := by rw [← hwa]; exact heap_alloc_at _ _ _ (by simp)
  have hs0 := HS.out.below hb0
  have x0 : wa.cell? ⟨C, 0, none⟩ = some (.int .i64 (most : Int)) := hs0.blk.cell 0
  have x1 : wa.cell? ⟨C, 1, none⟩ = some (.int .i64 (size : Int)) := hs0.blk.cell 1
  have HB0 := Lib.hid hb0
  have HKB := Lib.hid hkb
  have HKH := Lib.hid hkh
  have hz0 := hb0.size
  clear hwa hb0 hkb hkh hs0
  go_quiet (fail)
  generalize hwq : World.drewN wa nq = wb
  have hbq : Below wa.heap.size wa wb := by rw [← hwq]; exact below_drewN (Below.refl _ wa) nq
  have HBQ := Lib.hid (HB0.out.trans (hbq.mono hz0))
  have HSQ := Lib.hid (HS.out.below (HB0.out.trans (hbq.mono hz0)))
  have HKB1 := Lib.hid (HKB.out.below hbq HKB.out.lt)
  have HKH1 := Lib.hid (HKH.out.below hbq HKH.out.lt)
  have hzq : w.heap.size ≤ wb.heap.size := Nat.le_trans hz0 hbq.size
  clear hwq hbq x0 x1 HKB HKH
  have hi0 : (0 : Int) ≤ i := by omega
  have hin : (i : Int) < n := by omega
  have x2 : wb.cell? ⟨C, 2, none⟩ = some (.slice (some ⟨g, 0, none⟩) n c) := by have := HSQ.out.blk.cell 2; rw [HSV.out, HN.out] at this; exact this
  have x3 : wb.cell? ⟨C, 3, none⟩ = some (.int .i64 (i : Int)) := HSQ.out.blk.cell 3
  have y3 := HSQ.out.blk.frozen 3
  have z43 := (HBQ.out.cell (p := ⟨g, i * 44 + 43, none⟩) hgl).trans HZ43.out
  go_upto_region 8 with (fail)
  generalize hw1 : World.setCell _ _ _ = w1
  have o1 : Only (fun k => k = C) wb w1 := by rw [← hw1]; exact (Only.refl (fun k => k = C) wb).setCell_ (p := ⟨C, 3, none⟩) (.inl rfl) _
  have hs1 : SlAt w1 B C most L (.slice (some ⟨g, 0, none⟩) L.length c) size r1.s.next := by
    have hq := HSQ.out
    rw [HSV.out] at hq
    refine ⟨hq.ge, by rw [← hw1]; exact hq.blk.set_ 3 _, owns_only hq.row o1 (fun k hk e' => own_blk_ne hq.row hq.blk (by decide) (e' ▸ hk)), fun q hqq => (hq.ent q hqq).only o1 (fun k hk e' => own_blk_ne (hq.ent q hqq).raw hq.blk (by decide) (e' ▸ hk)) (fun k hk e' => own_blk_ne (hq.ent q hqq).peers hq.blk (by decide) (e' ▸ hk))⟩
  have HS1 := Lib.hid hs1
  have hC1 : SFoot w B C ∨ w.heap.size ≤ C := .inl HS.out.foot_blk
  have hg1 : SFoot w B g ∨ w.heap.size ≤ g := .inl (HS.out.foot_row (by rw [HSV.out]; rfl))
  have HO1 := Lib.hid ((Only.of_below (SFoot w B) HBQ.out).trans o1 (fun k hk => .inl (hk ▸ HS.out.foot_blk)))
  have HKB2 := Lib.hid (HKB1.out.only o1 (fun e' => Blk.ne_ HKB1.out HSQ.out.blk (by decide) e'))
  have HKH2 := Lib.hid (HKH1.out.only o1 (fun e' => Blk.ne_ HKH1.out HSQ.out.blk (by decide) e'))
  have he1 := (HE.out.below HBQ.out).only o1 (fun k cs mk hk e' => by have hb := HSQ.out.blk; unfold Blk at hb; rw [e', hb] at hk; injection hk with hk; injection hk with _ h2; exact absurd h2 (by decide)) (fun k cs mk hk e' => by have hb := HSQ.out.blk; unfold Blk at hb; rw [e', hb] at hk; injection hk with hk; injection hk with _ h2; exact absurd h2 (by decide))
  have HE1 := Lib.hid he1
  have HN1 := HN
  clear hw1 o1 hs1 he1 x2 x3 y3 z43
  have hu := Try.underlying38
  have hik : (Try.prog.info? 38).map (·.size) = some (entCells e rv pv).length := by rw [entCells_len]; kernel_rfl
  have hS1 : w1.cell? ⟨C, 2, none⟩ = some (.slice (some ⟨g, 0, none⟩) n c) ∧ w1.rangeAt w.heap.size 0 (entCells e rv pv) := ⟨by rw [← HN1.out]; exact HS1.out.blk.cell 2, blk_rangeN HKB2.out⟩
  refine wp_region_noPanic ?_
  refine wp_region_held_drew (S := fun w' => w'.cell? ⟨C, 2, none⟩ = some (.slice (some ⟨g, 0, none⟩) n c) ∧ w'.rangeAt w.heap.size 0 (entCells e rv pv)) (by kernel_rfl) hS1 (fun hHeld => ?_)
  refine wpAnyH_take (i := 0) (oi := ⟨some 53, _, _, _, _, _⟩) (v := ?_) rfl (by kernel_rfl) (by kernel_rfl) (by kernel_rfl) (fun _ _ _ h => h) (Or.inl ⟨by kernel_rfl, ?_⟩) hHeld ?_
  rotate_left
  · intro w hSw
    obtain ⟨sm, sk⟩ := hSw
    go_simp
    all_goals (with_reducible rfl)
  conv => arg 8; simp only [Act.put, List.setIfInBounds_toArray, List.set_cons_zero, List.set_cons_succ]
  refine wpAnyH_take (i := 1) (oi := ⟨some 54, _, _, _, _, _⟩) (v := ?_) rfl (by kernel_rfl) (by kernel_rfl) (by kernel_rfl) (fun _ _ _ h => h) (Or.inl ⟨by kernel_rfl, ?_⟩) hHeld ?_
  rotate_left
  · intro w hSw
    obtain ⟨sm, sk⟩ := hSw
    go_simp
    all_goals (with_reducible rfl)
  conv => arg 8; simp only [Act.put, List.setIfInBounds_toArray, List.set_cons_zero, List.set_cons_succ]
  refine wpAnyH_take (i := 2) (oi := ⟨some 55, _, _, _, _, _⟩) (v := ?_) rfl (by kernel_rfl) (by kernel_rfl) (by kernel_rfl) (fun _ _ _ h => h) (Or.inl ⟨by kernel_rfl, ?_⟩) hHeld ?_
  rotate_left
  · intro w hSw
    obtain ⟨sm, sk⟩ := hSw
    go_simp
    all_goals (with_reducible rfl)
  conv => arg 8; simp only [Act.put, List.setIfInBounds_toArray, List.set_cons_zero, List.set_cons_succ]
  refine wpAnyH_take (i := 3) (oi := ⟨some 56, _, _, _, _, _⟩) (v := ?_) rfl (by kernel_rfl) (by kernel_rfl) (by kernel_rfl) (fun _ _ _ h => h) (Or.inl ⟨by kernel_rfl, ?_⟩) hHeld ?_
  rotate_left
  · intro w hSw
    obtain ⟨sm, sk⟩ := hSw
    go_simp
    all_goals (with_reducible rfl)
  conv => arg 8; simp only [Act.put, List.setIfInBounds_toArray, List.set_cons_zero, List.set_cons_succ]
  refine wpAnyH_take (i := 4) (oi := ⟨some 57, _, _, _, _, _⟩) (v := ?_) rfl (by kernel_rfl) (by kernel_rfl) (by kernel_rfl) (fun _ _ _ h => h) (Or.inl ⟨by kernel_rfl, ?_⟩) hHeld ?_
  rotate_left
  · intro w hSw
    obtain ⟨sm, sk⟩ := hSw
    go_simp
    all_goals (with_reducible rfl)
  conv => arg 8; simp only [Act.put, List.setIfInBounds_toArray, List.set_cons_zero, List.set_cons_succ]
  refine wpAnyH_take (i := 5) (oi := ⟨some 58, _, _, _, _, _⟩) (v := ?_) rfl (by kernel_rfl) (by kernel_rfl) (by kernel_rfl) (fun _ _ _ h => h) (Or.inl ⟨by kernel_rfl, ?_⟩) hHeld ?_
  rotate_left
  · intro w hSw
    obtain ⟨sm, sk⟩ := hSw
    go_simp
    all_goals (with_reducible rfl)
  conv => arg 8; simp only [Act.put, List.setIfInBounds_toArray, List.set_cons_zero, List.set_cons_succ]
  refine wpAnyH_take (i := 6) (oi := ⟨some 59, _, _, _, _, _⟩) (v := ?_) rfl (by kernel_rfl) (by kernel_rfl) (by kernel_rfl) (fun _ _ _ h => h) (Or.inl ⟨by kernel_rfl, ?_⟩) hHeld ?_
  rotate_left
  · intro w hSw
    obtain ⟨sm, sk⟩ := hSw
    go_simp
    all_goals (with_reducible rfl)
  conv => arg 8; simp only [Act.put, List.setIfInBounds_toArray, List.set_cons_zero, List.set_cons_succ]
  refine wpAnyH_take (i := 7) (oi := ⟨some 60, _, _, _, _, _⟩) (v := ?_) rfl (by kernel_rfl) (by kernel_rfl) (by kernel_rfl) (fun _ _ _ h => h) (Or.inl ⟨by kernel_rfl, ?_⟩) hHeld ?_
  rotate_left
  · intro w hSw
    obtain ⟨sm, sk⟩ := hSw
    go_simp
    all_goals (with_reducible rfl)
  conv => arg 8; simp only [Act.put, List.setIfInBounds_toArray, List.set_cons_zero, List.set_cons_succ]
  refine wpAnyH_take (i := 8) (oi := ⟨some 61, _, _, _, _, _⟩) (v := ?_) rfl (by kernel_rfl) (by kernel_rfl) (by kernel_rfl) (fun _ _ _ h => h) (Or.inl ⟨by kernel_rfl, ?_⟩) hHeld ?_
  rotate_left
  · intro w hSw
    obtain ⟨sm, sk⟩ := hSw
    go_simp
    all_goals (with_reducible rfl)
  conv => arg 8; simp only [Act.put, List.setIfInBounds_toArray, List.set_cons_zero, List.set_cons_succ]
  refine wpAnyH_take (i := 9) (oi := ⟨some 62, _, _, _, _, _⟩) (v := ?_) rfl (by kernel_rfl) (by kernel_rfl) (by kernel_rfl) (fun _ _ _ h => h) (Or.inl ⟨by kernel_rfl, ?_⟩) hHeld ?_
  rotate_left
  · intro w hSw
    obtain ⟨sm, sk⟩ := hSw
    go_simp
    all_goals (with_reducible rfl)
  conv => arg 8; simp only [Act.put, List.setIfInBounds_toArray, List.set_cons_zero, List.set_cons_succ]
  refine wpAnyH_take (i := 10) (oi := ⟨some 63, _, _, _, _, _⟩) (v := _) rfl (by kernel_rfl) (by kernel_rfl) (by kernel_rfl) (fun _ _ _ h => h) (yieldsIf_load_mid (S := fun w' => w'.cell? ⟨C, 2, none⟩ = some (.slice (some ⟨g, 0, none⟩) n c) ∧ w'.rangeAt w.heap.size 0 (entCells e rv pv)) (by kernel_rfl) _ _ rfl _ _ rfl _ _ (fun w hSw => hSw.2) hu rfl hik) hHeld ?_
  conv => arg 8; simp only [Act.put, List.setIfInBounds_toArray, List.set_cons_zero, List.set_cons_succ]
  refine wpAnyH_ready (rs := [11]) (by kernel_rfl) (by simp) ?_
  refine AllReadyH.cons (o := ⟨some 64, _, _, _, _, _⟩) rfl (fun K hK => ?_) AllReadyH.nil
  go_simp
  go_at_call 32
  (with_reducible refine (ownEntry_any w1.drew e rv pv (HE1.out.below (below_drewN (Below.refl _ w1) 1)) hrn hpn).mono ?_)
  rintro ed9 w9 ⟨rv9, pv9, rfl, hb9, he9⟩
  have hb9 : Below w1.heap.size w1 w9 := (belowDrewR (Below.refl _ w1)).trans hb9
  have HB9 := Lib.hid hb9
  have hs9 := HS1.out.below hb9
  have HS9 := Lib.hid hs9
  have HE9 := Lib.hid he9
  have hkb9 := HKB2.out.below hb9 HKB2.out.lt
  have HKB9 := Lib.hid hkb9
  have qs : StoOk 41 w9 (.pointer (some ⟨g, i * 44, none⟩)) (.agg (entCells e rv9 pv9).toArray) := by
    obtain ⟨g', c', hv', _, _, _, _, hth⟩ := hs9.at_ HR1.out
    injection hv' with hv' _ _
    injection hv' with hv'
    injection hv' with hv'
    subst hv'
    exact ⟨g, i * 44, _, rfl, rfl, entCells_len _ _ _, fun j hj => hth j (by omega), entCells_one (own_oneCell he9.raw) (own_oneCell he9.peers)⟩
  clear hb9 hs9 he9 hkb9
  refine hK.out _ _ ⟨by rw [← HN1.out]; exact HS9.out.blk.cell 2, blk_rangeN HKB9.out⟩ (fun hHeld => ?_)
  clear hK K
  conv => arg 8; simp only [Act.put, List.setIfInBounds_toArray, List.set_cons_zero, List.set_cons_succ]
  refine wpAnyH_take (i := 12) (oi := ⟨some 65, _, _, _, _, _⟩) (v := ?_) rfl (by kernel_rfl) (by kernel_rfl) (by kernel_rfl) (fun _ _ _ h => h) (Or.inl ⟨by kernel_rfl, ?_⟩) hHeld ?_
  rotate_left
  · intro w hSw
    obtain ⟨sm, sk⟩ := hSw
    go_simp
    all_goals (with_reducible rfl)
  conv => arg 8; simp only [Act.put, List.setIfInBounds_toArray, List.set_cons_zero, List.set_cons_succ]
  refine wpAnyH_take (i := 13) (oi := ⟨some 66, _, _, _, _, _⟩) (v := ?_) rfl (by kernel_rfl) (by kernel_rfl) (by kernel_rfl) (fun _ _ _ h => h) (Or.inl ⟨by kernel_rfl, ?_⟩) hHeld ?_
  rotate_left
  · intro w hSw
    obtain ⟨sm, sk⟩ := hSw
    go_simp
    all_goals (with_reducible rfl)
  conv => arg 8; simp only [Act.put, List.setIfInBounds_toArray, List.set_cons_zero, List.set_cons_succ]
  refine wpAnyH_ready (rs := [14]) (by kernel_rfl) (by simp) ?_
  refine AllReadyH.cons (o := ⟨none, _, _, _, _, _⟩) rfl (fun K hK => ?_) AllReadyH.nil
  go_simp
  generalize hw10 : storeMid _ _ _ = w10
  have he10 : w10 = w9.setCells g (i * 44) (entCells e rv9 pv9) := by rw [← hw10]; exact storeMid_eq _ _ _ _
  have o10 : Only (fun k => k = g) w9 w10 := by rw [he10]; exact setCells_only (fun k => k = g) w9 g (i * 44) _ (.inl rfl)
  have hk10 := (only_slot HS9.out rfl o10).1
  have hkb10 := HKB9.out.only o10 (fun e' => own_blk_ne HS9.out.row HKB9.out (by decide) (congrArg some e'.symm))
  have h42 : w10.cell? ⟨g, i * 44 + 42, none⟩ = some (.bool r1.s.full) := by
    obtain ⟨g', c', hv', _, _, hcell, _, _⟩ := HS9.out.at_ HR1.out
    injection hv' with hv' _ _
    injection hv' with hv'
    injection hv' with hv'
    subst hv'
    rw [he10, World.cell?_setCells_out g _ _ _ _ (fun _ _ => by right; rw [entCells_len]; show i * 44 + 41 ≤ i * 44 + 42; omega), hcell 42 (by omega)]
    exact cells_full r1
  have hf42 : w10.frozen? ⟨g, i * 44 + 42, none⟩ = false := by
    rw [he10, World.frozen?_setCells]
    have hrow := HS9.out.row
    exact hrow.frozenAt _
  have HE10 := Lib.hid he10
  have HK10 := Lib.hid hk10
  have HKB10 := Lib.hid hkb10
  have HO10 := Lib.hid o10
  clear hw10 he10 o10 hk10 hkb10
  refine hK.out _ _ ⟨by rw [← HN1.out]; exact HK10.out.cell 2, blk_rangeN HKB10.out⟩ (fun hHeld => ?_)
  clear hK K
  conv => arg 8; simp only [Act.put, List.setIfInBounds_toArray, List.set_cons_zero, List.set_cons_succ]
  refine wpAnyH_take (i := 15) (oi := ⟨some 67, _, _, _, _, _⟩) (v := ?_) rfl (by kernel_rfl) (by kernel_rfl) (by kernel_rfl) (fun _ _ _ h => h) (Or.inl ⟨by kernel_rfl, ?_⟩) hHeld ?_
  rotate_left
  · intro w hSw
    obtain ⟨sm, sk⟩ := hSw
    go_simp
    all_goals (with_reducible rfl)
  conv => arg 8; simp only [Act.put, List.setIfInBounds_toArray, List.set_cons_zero, List.set_cons_succ]
  refine wpAnyH_take (i := 16) (oi := ⟨some 68, _, _, _, _, _⟩) (v := ?_) rfl (by kernel_rfl) (by kernel_rfl) (by kernel_rfl) (fun _ _ _ h => h) (Or.inl ⟨by kernel_rfl, ?_⟩) hHeld ?_
  rotate_left
  · intro w hSw
    obtain ⟨sm, sk⟩ := hSw
    go_simp
    all_goals (with_reducible rfl)
  conv => arg 8; simp only [Act.put, List.setIfInBounds_toArray, List.set_cons_zero, List.set_cons_succ]
  refine wpAnyH_ready (rs := [17]) (by kernel_rfl) (by simp) ?_
  refine AllReadyH.cons (o := ⟨none, _, _, _, _, _⟩) rfl (fun K hK => ?_) AllReadyH.nil
  go_simp
  generalize hw11 : World.setCell _ _ _ = w11
  have o11 : Only (fun k => k = g) w10 w11 := by rw [← hw11]; exact (Only.refl (fun k => k = g) w10).setCell_ (p := ⟨g, i * 44 + 42, none⟩) (.inl rfl) _
  have hk11 : Blk w11 C 71 #[.int .i64 (most : Int), .int .i64 (size : Int), .slice (some ⟨g, 0, none⟩) L.length c, .int .i64 r1.s.next] := HK10.out.only o11 (fun e' => own_blk_ne HS9.out.row HS9.out.blk (by decide) (congrArg some e'.symm))
  have hkb11 := HKB10.out.only o11 (fun e' => own_blk_ne HS9.out.row HKB9.out (by decide) (congrArg some e'.symm))
  have h41 : w11.cell? ⟨g, i * 44 + 41, none⟩ = some (.int .i64 (r1.s.use : Int)) := by
    obtain ⟨g', c', hv', _, _, hcell, _, _⟩ := HS9.out.at_ HR1.out
    injection hv' with hv' _ _
    injection hv' with hv'
    injection hv' with hv'
    subst hv'
    rw [← hw11, World.cell?_setCell_other _ _ _ _ (by simp), HE10.out, World.cell?_setCells_out g _ _ _ _ (fun _ _ => by right; rw [entCells_len]; exact Nat.le_refl _), hcell 41 (by omega)]
    exact cells_use r1
  have HW11 := Lib.hid hw11
  have HK11 := Lib.hid hk11
  have HO11 := Lib.hid o11
  clear hw11 o11 hk11 h42 hf42 qs
  refine hK.out _ _ ⟨by rw [← HN1.out]; exact HK11.out.cell 2, blk_rangeN hkb11⟩ (fun hHeld => ?_)
  clear hK K hkb11
  conv => arg 8; simp only [Act.put, List.setIfInBounds_toArray, List.set_cons_zero, List.set_cons_succ]
  refine wpAnyH_done (by kernel_rfl) ?_ _
  refine NoPanic.normal ?_
  have x1 : w11.cell? ⟨C, 1, none⟩ = some (.int .i64 (size : Int)) := HK11.out.cell 1
  have x2 : w11.cell? ⟨C, 2, none⟩ = some (.slice (some ⟨g, 0, none⟩) n c) := by rw [← HN1.out]; exact HK11.out.cell 2
  have y1 := HK11.out.frozen 1
  have hkh11 : Blk w11 (w.heap.size + 1) 43 #[.int .i64 0, .int .i64 0] :=
    ((HKH2.out.below HB9.out HKH2.out.lt).only HO10.out (fun e' => own_blk_ne HS9.out.row (HKH2.out.below HB9.out HKH2.out.lt) (by decide) (congrArg some e'.symm))).only HO11.out (fun e' => own_blk_ne HS9.out.row (HKH2.out.below HB9.out HKH2.out.lt) (by decide) (congrArg some e'.symm))
  have z0 := hkh11.cell 0
  have z1 := hkh11.cell 1
  have f0 := hkh11.frozen 0
  have f1 := hkh11.frozen 1
  simp at z0 z1
  have hCh : C ≠ w.heap.size + 1 := by have := HS.out.blk.lt; omega
  have hgh : g ≠ w.heap.size + 1 := fun e' => own_blk_ne HS9.out.row (HKH2.out.below HB9.out HKH2.out.lt) (by decide) (congrArg some e')
  have hgC : g ≠ C := fun e' => own_blk_ne HS9.out.row HS9.out.blk (by decide) (congrArg some e')
  have hhl := hkh11.lt
  have HKH11 := Lib.hid hkh11
  have hsi : (size : Int) + 1 = ((size + 1 : Nat) : Int) := by omega
  have HSI := Lib.hid hsi
  clear hkh11 hHeld hu hik hS1 hsi
  go_wp2_with fail
  have hend := add_end (w := w) (wa := w9) HS9.out (HO1.out.trans (Only.of_below (fun _ => False) HB9.out) (fun _ h => h.elim)) hC1 hg1 HR1.out (HE9.out.less (show B ≤ w1.drew.heap.size from Nat.le_trans hB HO1.out.size)) (size + 1)
  rw [← HE10.out, ← HSI.out, show w10.setCell ⟨g, i * 44 + 42, none⟩ (.bool true) = w11 from HW11.out] at hend
  obtain ⟨e1, e2⟩ := hend
  have hkf := HKH11.out.far (p := ⟨C, 1, none⟩) (fun e' => hCh e'.symm) (.int .i64 ((size : Int) + 1))
  have ofin : Only (fun k => k = w.heap.size + 1) (w11.setCell ⟨C, 1, none⟩ (.int .i64 ((size : Int) + 1))) _ := ((Only.refl (fun k => k = w.heap.size + 1) (w11.setCell ⟨C, 1, none⟩ (.int .i64 ((size : Int) + 1)))).setCell_ (p := ⟨w.heap.size + 1, 0, none⟩) (.inl rfl) (.int .i64 (i : Int))).setCell_ (p := ⟨w.heap.size + 1, 1, none⟩) (.inl rfl) (.int .i64 (r1.s.use : Int))
  have hw9 : w.heap.size ≤ w1.drew.heap.size := HO1.out.size
  have hent : EntAt (w11.setCell ⟨C, 1, none⟩ (.int .i64 ((size : Int) + 1))) w.heap.size e rv9 pv9 := by
    have := e2.ent _ (List.mem_set (by have := HR1.out; exact (List.getElem?_eq_some_iff.1 this).1) (fullRow e r1 rv9 pv9))
    exact ⟨(owns_from this.raw (HE9.out.less hw9).raw), (owns_from this.peers (HE9.out.less hw9).peers)⟩
  refine bodyPost_ret (results_cell_tmp rfl _ _ (w.heap.size + 1) _ #[.int .i64 (i : Int), .int .i64 (r1.s.use : Int)] (0, 0) _ rfl ((hkf.set_ 0 _).set_ 1 _) Try.underlying43 rfl (by kernel_rfl)) rfl
    ⟨rfl, e1.trans ofin (fun k hk => .inr (by omega)), _, rv9, pv9, e2.apart ofin (fun k hk => ⟨_, _, hk ▸ hkf, by decide⟩), hent.only ofin (fun k hk e' => own_blk_ne hent.raw hkf (by decide) (e' ▸ hk)) (fun k hk e' => own_blk_ne hent.peers hkf (by decide) (e' ▸ hk))⟩
set_option maxRecDepth 100000 in
set_option maxHeartbeats 4000000 in
attribute [local go_sem ↓] wp_load_ent wp_store_ent in
theorem sadd_new (w : World) (B C most : Nat) (L : List SRow) (sv : Value) (size : Nat) (free : Int) (h : SlAt w B C most L sv size free) (hB : B ≤ w.heap.size) (hl : L.length ≤ 1048576) (hsz2 : size ≤ 1048576) (hm2 : most ≤ 1048576) (hfr : -1 ≤ free ∧ free ≤ 1048576)
    (e : Ent) (rv pv : Value) (he : EntRd w e rv pv) (hrn : e.rn ≤ 1048576) (hpn : e.peers.length ≤ 1048576) (hne : size ≠ most) (hfree : free = -1) :
    Calls Try.prog 14 #[.pointer (some ⟨C, 0, none⟩), entV e rv pv] w (AddPost w B C most (L ++ [freeRow 0 0]) L.length (freeRow 0 0) (size + 1) free e) := by
  obtain ⟨A, c, hsv⟩ := own_form h.row
  obtain ⟨cx, hcx⟩ : ∃ cx, (entCells e rv pv).toArray = cx := ⟨_, rfl⟩
  show Calls _ _ #[_, .agg (entCells e rv pv).toArray] _ _
  rw [hcx]
  obtain ⟨n, hn⟩ : ∃ n, L.length = n := ⟨_, rfl⟩
  have HN := Lib.hid hn
  have HCX := Lib.hid hcx
  have HS := Lib.hid h
  have HE := Lib.hid he
  have HSV := Lib.hid hsv
  rw [hn] at hl ⊢
  have t0 : ((size : Int) == (most : Int)) = false := by simp; omega
  obtain ⟨i0, hi0, hz0, hz1, hz2⟩ := info_parts slot_info
  have HI0 := Lib.hid hi0
  have HZ0 := Lib.hid hz0
  subst hfree
  clear hcx h he hsv hn hi0 hz0
  go_enter Try.func14, Try.ntmps14
  go_upto_region 1 with (fail)
  generalize hwa : World.alloc (World.alloc w _) _ = wa
  have hb0 : Below w.heap.size w wa := by rw [← hwa]; exact ((Below.refl _ _).alloc (Nat.le_refl _) _).alloc (by simp) _
  have hkb : Blk wa w.heap.size 38 (entCells e rv pv).toArray := by rw [← hwa, HCX.out]; exact (Blk.new w _ _).alloc _
  have hkh : Blk wa (w.heap.size + 1) 43 #[.int .i64 0, .int .i64 0] := by rw [← hwa]; exact heap_alloc_at _ _ _ (by simp)
  have hs0 := HS.out.below hb0
  have x0 : wa.cell? ⟨C, 0, none⟩ = some (.int .i64 (most : Int)) := hs0.blk.cell 0
  have x1 : wa.cell? ⟨C, 1, none⟩ = some (.int .i64 (size : Int)) := hs0.blk.cell 1
  have HB0 := Lib.hid hb0
  have HKB := Lib.hid hkb
  have HKH := Lib.hid hkh
  have hz0 := hb0.size
  clear hwa hb0 hkb hkh hs0
  go_quiet (fail)
  generalize hwq : World.drewN wa nq = wb
  have hbq : Below wa.heap.size wa wb := by rw [← hwq]; exact below_drewN (Below.refl _ wa) nq
  have HBQ := Lib.hid (HB0.out.trans (hbq.mono hz0))
  have HSQ := Lib.hid (HS.out.below (HB0.out.trans (hbq.mono hz0)))
  have HKB1 := Lib.hid (HKB.out.below hbq HKB.out.lt)
  have HKH1 := Lib.hid (HKH.out.below hbq HKH.out.lt)
  have hzq : w.heap.size ≤ wb.heap.size := Nat.le_trans hz0 hbq.size
  clear hwq hbq x0 x1 HKB HKH
  have x2 : wb.cell? ⟨C, 2, none⟩ = some (.slice A n c) := by have := HSQ.out.blk.cell 2; rw [HSV.out, HN.out] at this; exact this
  have x3 : wb.cell? ⟨C, 3, none⟩ = some (.int .i64 (-1)) := HSQ.out.blk.cell 3
  have hrow : wb.ownsRow B 75 44 (.slice A n c) n (rowsV L) := by have := HSQ.out.row; rw [HSV.out, HN.out] at this; exact this
  have hCb := HSQ.out.blk.lt
  have HRW := Lib.hid (hrow.alloc (.cells (freeRow 0 0).cells.toArray 75))
  have HRD := Lib.hid (slot_reads wb)
  clear hrow
  go_wp2_with (first
    | (refine wpList_buildSlice rfl 69 75 1 _ rfl (freeRow 0 0).cells.toArray i0 _ Try.underlying69 HI0.out HZ0.out (by rw [hz1]; omega) (by rw [hz1]; omega) (by simp only [List.map_toArray, List.map_cons, List.map_nil]; exact slot_fill i0 hz1) ?_)
    | (at_builtin
       refine wpList_append_any _ rfl (.tmp 36) (.tmp 38) _ rfl B 75 i0 _ 44 168 Try.underlying69 HI0.out HZ0.out hz1 hz2 rfl (by omega) (.slice A n c) n _ (by rfl)
         HRW.out _ _ 1 1 _ (by rfl) HRD.out (SRow.one (w := wb) (B := B) (r := freeRow 0 0) (ent0_at wb B)) (by unfold maxLen; omega) (by omega) (by rw [World.size_alloc]; omega) ?_
       intro v4 w4 hr4 hg4 hat4
       obtain ⟨A4, c4, rfl⟩ := own_form hr4
       have hb4 : Blk w4 C 71 #[.int .i64 (most : Int), .int .i64 (size : Int), .slice A n c, .int .i64 (-1)] := by
         have h1 := (HSQ.out.below ((Below.refl wb.heap.size wb).alloc (Nat.le_refl _) (.cells (freeRow 0 0).cells.toArray 75)))
         have h2 := h1.blk.grown hg4 (fun e' => by have := own_blk_ne h1.row h1.blk (by decide); rw [HSV.out, HN.out] at this; exact this e'.symm)
         rw [HSV.out, HN.out] at h2
         exact h2
       have z2 := hb4.cell 2
       have z2f := hb4.frozen 2
       simp at z2
       have HR4 := Lib.hid hr4
       have HG4 := Lib.hid hg4
       have HAT4 := Lib.hid hat4
       clear hr4 hg4 hat4 hb4))
  go_upto_region 8 with (fail)
  generalize hw1 : World.setCell _ _ _ = w1
  have hcc4 : n + 1 ≤ c4 ∧ c4 ≤ 9223372036854775807 := by
    rcases HR4.out.2 with ⟨h1, h2⟩ | ⟨_, cap, _, h1, _, _, h2, h3, _⟩
    · omega
    · injection h1 with _ _ h1; subst h1; unfold maxLen at h3; exact ⟨h2, h3⟩
  obtain ⟨hcc, hc2⟩ := hcc4
  obtain ⟨g, c5, hv5, _, _⟩ := HR4.out.form (by omega)
  have hAe : A4 = some ⟨g, 0, none⟩ := by injection hv5
  subst hAe
  clear hv5
  have hge := grow_end (w := w) HSQ.out HBQ.out (W := wb.alloc (.cells (freeRow 0 0).cells.toArray 75)) (HS.out.below (Below.refl _ _) |> fun _ => ((Below.refl wb.heap.size wb).alloc (Nat.le_refl _) _)) (sv' := .slice (some ⟨g, 0, none⟩) (n + 1) c4) (w4 := w4) (by rw [HN.out]; exact HR4.out) (by rw [HSV.out, HN.out]; exact HG4.out) hB HS.out
  rw [hw1] at hge
  obtain ⟨hO1, hs1⟩ := hge
  have hL1 : (L ++ [freeRow 0 0]).length = n + 1 := by rw [List.length_append, HN.out]; rfl
  have hs1' : SlAt w1 B C most (L ++ [freeRow 0 0]) (.slice (some ⟨g, 0, none⟩) (L ++ [freeRow 0 0]).length c4) size (-1) := by rw [hL1]; exact hs1
  have HS1 := Lib.hid hs1'
  have HN1 := Lib.hid hL1
  have HR1 : Hid ((L ++ [freeRow 0 0])[n]? = some (freeRow 0 0)) := by
    show _ = _
    rw [List.getElem?_append_right (by rw [HN.out]; exact Nat.le_refl _), HN.out, Nat.sub_self]
    rfl
  have hC1 : SFoot w B C ∨ w.heap.size ≤ C := .inl HS.out.foot_blk
  have hg1 : SFoot w B g ∨ w.heap.size ≤ g := by
    rcases HAT4.out with h1 | h1
    · have h2 : (Value.slice A n c).ownBlock = some g := h1.symm
      exact .inl (HS.out.foot_row (by rw [HSV.out, HN.out]; exact h2))
    · injection h1 with h1
      have h1 : g = (wb.alloc (.cells (freeRow 0 0).cells.toArray 75)).heap.size := h1
      right
      rw [h1]
      simp
      omega
  have HO1 := Lib.hid hO1
  have hbq1 : Below wb.heap.size wb (wb.alloc (.cells (freeRow 0 0).cells.toArray 75)) := (Below.refl wb.heap.size wb).alloc (Nat.le_refl _) _
  have o1 : Only (fun k => k = C ∨ (Value.slice A n c).ownBlock = some k) wb w1 := by
    rw [← hw1]
    exact (((Only.of_below (fun k => k = C ∨ (Value.slice A n c).ownBlock = some k) hbq1).trans (Only.of_grown HG4.out) (fun k hk => .inl (.inr hk))).setCell_ (p := ⟨C, 2, none⟩) (.inl (.inl rfl)) _)
  have hrq : wb.ownsRow B 75 44 (.slice A n c) n (rowsV L) := by have := HSQ.out.row; rw [HSV.out, HN.out] at this; exact this
  have hap : ∀ {k : Nat} {t : TypeId} {cs : Array Value}, Blk wb k t cs → t ≠ 71 → t ≠ 75 → ¬ (k = C ∨ (Value.slice A n c).ownBlock = some k) := fun hb h1 h2 e' => by
    rcases e' with e' | e'
    · exact Blk.ne_ hb HSQ.out.blk h1 e'
    · exact own_blk_ne hrq hb (Ne.symm h2) e'
  have HKB2 := Lib.hid (HKB1.out.only o1 (hap HKB1.out (by decide) (by decide)))
  have HKH2 := Lib.hid (HKH1.out.only o1 (hap HKH1.out (by decide) (by decide)))
  have he0 := HE.out.below HBQ.out
  have hown : ∀ {ty : TypeId}, ty ≠ 71 → ty ≠ 75 → ApartT (fun k => k = C ∨ (Value.slice A n c).ownBlock = some k) wb ty := fun {ty} h1 h2 k cs mk hk e' => by
    rcases e' with e' | e'
    · have hb := HSQ.out.blk; unfold Blk at hb; rw [e', hb] at hk; injection hk with hk; injection hk with _ h3; exact h1 h3.symm
    · rcases hrq.2 with ⟨h5, _⟩ | ⟨q, cap, cur, h5, _, h6, _⟩
      · rw [h5] at e'; cases e'
      · rw [h5] at e'; injection e' with e'; subst e'; rw [h6] at hk; injection hk with hk; injection hk with _ h3; exact h2 h3.symm
  have he1 := he0.only o1 (hown (by decide) (by decide)) (hown (by decide) (by decide))
  have HE1 := Lib.hid he1
  have hil : n < n + 1 := by omega
  have hi0 : (0 : Int) ≤ n := by omega
  have hin : (n : Int) < (n : Int) + 1 := by omega
  have hus : (freeRow 0 0).s.use ≤ 1048576 := by show 0 ≤ _; omega
  clear hw1 hO1 hs1 hs1' hL1 hbq1 o1 hrq he0 he1 x2 x3
  have hu := Try.underlying38
  have hik : (Try.prog.info? 38).map (·.size) = some (entCells e rv pv).length := by rw [entCells_len]; kernel_rfl
  have hS1 : w1.cell? ⟨C, 2, none⟩ = some (.slice (some ⟨g, 0, none⟩) (n + 1) c4) ∧ w1.rangeAt w.heap.size 0 (entCells e rv pv) := ⟨by rw [← HN1.out]; exact HS1.out.blk.cell 2, blk_rangeN HKB2.out⟩
  refine wp_region_noPanic ?_
  refine wp_region_held_drew (S := fun w' => w'.cell? ⟨C, 2, none⟩ = some (.slice (some ⟨g, 0, none⟩) (n + 1) c4) ∧ w'.rangeAt w.heap.size 0 (entCells e rv pv)) (by kernel_rfl) hS1 (fun hHeld => ?_)
  refine wpAnyH_take (i := 0) (oi := ⟨some 53, _, _, _, _, _⟩) (v := ?_) rfl (by kernel_rfl) (by kernel_rfl) (by kernel_rfl) (fun _ _ _ h => h) (Or.inl ⟨by kernel_rfl, ?_⟩) hHeld ?_
  rotate_left
  · intro w hSw
    obtain ⟨sm, sk⟩ := hSw
    go_simp
    all_goals (with_reducible rfl)
  conv => arg 8; simp only [Act.put, List.setIfInBounds_toArray, List.set_cons_zero, List.set_cons_succ]
  refine wpAnyH_take (i := 1) (oi := ⟨some 54, _, _, _, _, _⟩) (v := ?_) rfl (by kernel_rfl) (by kernel_rfl) (by kernel_rfl) (fun _ _ _ h => h) (Or.inl ⟨by kernel_rfl, ?_⟩) hHeld ?_
  rotate_left
  · intro w hSw
    obtain ⟨sm, sk⟩ := hSw
    go_simp
    all_goals (with_reducible rfl)
  conv => arg 8; simp only [Act.put, List.setIfInBounds_toArray, List.set_cons_zero, List.set_cons_succ]
  refine wpAnyH_take (i := 2) (oi := ⟨some 55, _, _, _, _, _⟩) (v := ?_) rfl (by kernel_rfl) (by kernel_rfl) (by kernel_rfl) (fun _ _ _ h => h) (Or.inl ⟨by kernel_rfl, ?_⟩) hHeld ?_
  rotate_left
  · intro w hSw
    obtain ⟨sm, sk⟩ := hSw
    go_simp
    all_goals (with_reducible rfl)
  conv => arg 8; simp only [Act.put, List.setIfInBounds_toArray, List.set_cons_zero, List.set_cons_succ]
  refine wpAnyH_take (i := 3) (oi := ⟨some 56, _, _, _, _, _⟩) (v := ?_) rfl (by kernel_rfl) (by kernel_rfl) (by kernel_rfl) (fun _ _ _ h => h) (Or.inl ⟨by kernel_rfl, ?_⟩) hHeld ?_
  rotate_left
  · intro w hSw
    obtain ⟨sm, sk⟩ := hSw
    go_simp
    all_goals (with_reducible rfl)
  conv => arg 8; simp only [Act.put, List.setIfInBounds_toArray, List.set_cons_zero, List.set_cons_succ]
  refine wpAnyH_take (i := 4) (oi := ⟨some 57, _, _, _, _, _⟩) (v := ?_) rfl (by kernel_rfl) (by kernel_rfl) (by kernel_rfl) (fun _ _ _ h => h) (Or.inl ⟨by kernel_rfl, ?_⟩) hHeld ?_
  rotate_left
  · intro w hSw
    obtain ⟨sm, sk⟩ := hSw
    go_simp
    all_goals (with_reducible rfl)
  conv => arg 8; simp only [Act.put, List.setIfInBounds_toArray, List.set_cons_zero, List.set_cons_succ]
  refine wpAnyH_take (i := 5) (oi := ⟨some 58, _, _, _, _, _⟩) (v := ?_) rfl (by kernel_rfl) (by kernel_rfl) (by kernel_rfl) (fun _ _ _ h => h) (Or.inl ⟨by kernel_rfl, ?_⟩) hHeld ?_
  rotate_left
  · intro w hSw
    obtain ⟨sm, sk⟩ := hSw
    go_simp
    all_goals (with_reducible rfl)
  conv => arg 8; simp only [Act.put, List.setIfInBounds_toArray, List.set_cons_zero, List.set_cons_succ]
  refine wpAnyH_take (i := 6) (oi := ⟨some 59, _, _, _, _, _⟩) (v := ?_) rfl (by kernel_rfl) (by kernel_rfl) (by kernel_rfl) (fun _ _ _ h => h) (Or.inl ⟨by kernel_rfl, ?_⟩) hHeld ?_
  rotate_left
  · intro w hSw
    obtain ⟨sm, sk⟩ := hSw
    go_simp
    all_goals (with_reducible rfl)
  conv => arg 8; simp only [Act.put, List.setIfInBounds_toArray, List.set_cons_zero, List.set_cons_succ]
  refine wpAnyH_take (i := 7) (oi := ⟨some 60, _, _, _, _, _⟩) (v := ?_) rfl (by kernel_rfl) (by kernel_rfl) (by kernel_rfl) (fun _ _ _ h => h) (Or.inl ⟨by kernel_rfl, ?_⟩) hHeld ?_
  rotate_left
  · intro w hSw
    obtain ⟨sm, sk⟩ := hSw
    go_simp
    all_goals (with_reducible rfl)
  conv => arg 8; simp only [Act.put, List.setIfInBounds_toArray, List.set_cons_zero, List.set_cons_succ]
  refine wpAnyH_take (i := 8) (oi := ⟨some 61, _, _, _, _, _⟩) (v := ?_) rfl (by kernel_rfl) (by kernel_rfl) (by kernel_rfl) (fun _ _ _ h => h) (Or.inl ⟨by kernel_rfl, ?_⟩) hHeld ?_
  rotate_left
  · intro w hSw
    obtain ⟨sm, sk⟩ := hSw
    go_simp
    all_goals (with_reducible rfl)
  conv => arg 8; simp only [Act.put, List.setIfInBounds_toArray, List.set_cons_zero, List.set_cons_succ]
  refine wpAnyH_take (i := 9) (oi := ⟨some 62, _, _, _, _, _⟩) (v := ?_) rfl (by kernel_rfl) (by kernel_rfl) (by kernel_rfl) (fun _ _ _ h => h) (Or.inl ⟨by kernel_rfl, ?_⟩) hHeld ?_
  rotate_left
  · intro w hSw
    obtain ⟨sm, sk⟩ := hSw
    go_simp
    all_goals (with_reducible rfl)
  conv => arg 8; simp only [Act.put, List.setIfInBounds_toArray, List.set_cons_zero, List.set_cons_succ]
  refine wpAnyH_take (i := 10) (oi := ⟨some 63, _, _, _, _, _⟩) (v := _) rfl (by kernel_rfl) (by kernel_rfl) (by kernel_rfl) (fun _ _ _ h => h) (yieldsIf_load_mid (S := fun w' => w'.cell? ⟨C, 2, none⟩ = some (.slice (some ⟨g, 0, none⟩) (n + 1) c4) ∧ w'.rangeAt w.heap.size 0 (entCells e rv pv)) (by kernel_rfl) _ _ rfl _ _ rfl _ _ (fun w hSw => hSw.2) hu rfl hik) hHeld ?_
  conv => arg 8; simp only [Act.put, List.setIfInBounds_toArray, List.set_cons_zero, List.set_cons_succ]
  refine wpAnyH_ready (rs := [11]) (by kernel_rfl) (by simp) ?_
  refine AllReadyH.cons (o := ⟨some 64, _, _, _, _, _⟩) rfl (fun K hK => ?_) AllReadyH.nil
  go_simp
  go_at_call 32
  (with_reducible refine (ownEntry_any w1.drew e rv pv (HE1.out.below (below_drewN (Below.refl _ w1) 1)) hrn hpn).mono ?_)
  rintro ed9 w9 ⟨rv9, pv9, rfl, hb9, he9⟩
  have hb9 : Below w1.heap.size w1 w9 := (belowDrewR (Below.refl _ w1)).trans hb9
  have HB9 := Lib.hid hb9
  have hs9 := HS1.out.below hb9
  have HS9 := Lib.hid hs9
  have HE9 := Lib.hid he9
  have hkb9 := HKB2.out.below hb9 HKB2.out.lt
  have HKB9 := Lib.hid hkb9
  have qs : StoOk 41 w9 (.pointer (some ⟨g, n * 44, none⟩)) (.agg (entCells e rv9 pv9).toArray) := by
    obtain ⟨g', c', hv', _, _, _, _, hth⟩ := hs9.at_ HR1.out
    injection hv' with hv' _ _
    injection hv' with hv'
    injection hv' with hv'
    subst hv'
    exact ⟨g, n * 44, _, rfl, rfl, entCells_len _ _ _, fun j hj => hth j (by omega), entCells_one (own_oneCell he9.raw) (own_oneCell he9.peers)⟩
  clear hb9 hs9 he9 hkb9
  refine hK.out _ _ ⟨by rw [← HN1.out]; exact HS9.out.blk.cell 2, blk_rangeN HKB9.out⟩ (fun hHeld => ?_)
  clear hK K
  conv => arg 8; simp only [Act.put, List.setIfInBounds_toArray, List.set_cons_zero, List.set_cons_succ]
  refine wpAnyH_take (i := 12) (oi := ⟨some 65, _, _, _, _, _⟩) (v := ?_) rfl (by kernel_rfl) (by kernel_rfl) (by kernel_rfl) (fun _ _ _ h => h) (Or.inl ⟨by kernel_rfl, ?_⟩) hHeld ?_
  rotate_left
  · intro w hSw
    obtain ⟨sm, sk⟩ := hSw
    go_simp
    all_goals (with_reducible rfl)
  conv => arg 8; simp only [Act.put, List.setIfInBounds_toArray, List.set_cons_zero, List.set_cons_succ]
  refine wpAnyH_take (i := 13) (oi := ⟨some 66, _, _, _, _, _⟩) (v := ?_) rfl (by kernel_rfl) (by kernel_rfl) (by kernel_rfl) (fun _ _ _ h => h) (Or.inl ⟨by kernel_rfl, ?_⟩) hHeld ?_
  rotate_left
  · intro w hSw
    obtain ⟨sm, sk⟩ := hSw
    go_simp
    all_goals (with_reducible rfl)
  conv => arg 8; simp only [Act.put, List.setIfInBounds_toArray, List.set_cons_zero, List.set_cons_succ]
  refine wpAnyH_ready (rs := [14]) (by kernel_rfl) (by simp) ?_
  refine AllReadyH.cons (o := ⟨none, _, _, _, _, _⟩) rfl (fun K hK => ?_) AllReadyH.nil
  go_simp
  generalize hw10 : storeMid _ _ _ = w10
  have he10 : w10 = w9.setCells g (n * 44) (entCells e rv9 pv9) := by rw [← hw10]; exact storeMid_eq _ _ _ _
  have o10 : Only (fun k => k = g) w9 w10 := by rw [he10]; exact setCells_only (fun k => k = g) w9 g (n * 44) _ (.inl rfl)
  have hk10 := (only_slot HS9.out rfl o10).1
  have hkb10 := HKB9.out.only o10 (fun e' => own_blk_ne HS9.out.row HKB9.out (by decide) (congrArg some e'.symm))
  have h42 : w10.cell? ⟨g, n * 44 + 42, none⟩ = some (.bool (freeRow 0 0).s.full) := by
    obtain ⟨g', c', hv', _, _, hcell, _, _⟩ := HS9.out.at_ HR1.out
    injection hv' with hv' _ _
    injection hv' with hv'
    injection hv' with hv'
    subst hv'
    rw [he10, World.cell?_setCells_out g _ _ _ _ (fun _ _ => by right; rw [entCells_len]; show n * 44 + 41 ≤ n * 44 + 42; omega), hcell 42 (by omega)]
    exact cells_full (freeRow 0 0)
  have hf42 : w10.frozen? ⟨g, n * 44 + 42, none⟩ = false := by
    rw [he10, World.frozen?_setCells]
    have hrow := HS9.out.row
    exact hrow.frozenAt _
  have HE10 := Lib.hid he10
  have HK10 := Lib.hid hk10
  have HKB10 := Lib.hid hkb10
  have HO10 := Lib.hid o10
  clear hw10 he10 o10 hk10 hkb10
  refine hK.out _ _ ⟨by rw [← HN1.out]; exact HK10.out.cell 2, blk_rangeN HKB10.out⟩ (fun hHeld => ?_)
  clear hK K
  conv => arg 8; simp only [Act.put, List.setIfInBounds_toArray, List.set_cons_zero, List.set_cons_succ]
  refine wpAnyH_take (i := 15) (oi := ⟨some 67, _, _, _, _, _⟩) (v := ?_) rfl (by kernel_rfl) (by kernel_rfl) (by kernel_rfl) (fun _ _ _ h => h) (Or.inl ⟨by kernel_rfl, ?_⟩) hHeld ?_
  rotate_left
  · intro w hSw
    obtain ⟨sm, sk⟩ := hSw
    go_simp
    all_goals (with_reducible rfl)
  conv => arg 8; simp only [Act.put, List.setIfInBounds_toArray, List.set_cons_zero, List.set_cons_succ]
  refine wpAnyH_take (i := 16) (oi := ⟨some 68, _, _, _, _, _⟩) (v := ?_) rfl (by kernel_rfl) (by kernel_rfl) (by kernel_rfl) (fun _ _ _ h => h) (Or.inl ⟨by kernel_rfl, ?_⟩) hHeld ?_
  rotate_left
  · intro w hSw
    obtain ⟨sm, sk⟩ := hSw
    go_simp
    all_goals (with_reducible rfl)
  conv => arg 8; simp only [Act.put, List.setIfInBounds_toArray, List.set_cons_zero, List.set_cons_succ]
  refine wpAnyH_ready (rs := [17]) (by kernel_rfl) (by simp) ?_
  refine AllReadyH.cons (o := ⟨none, _, _, _, _, _⟩) rfl (fun K hK => ?_) AllReadyH.nil
  go_simp
  generalize hw11 : World.setCell _ _ _ = w11
  have o11 : Only (fun k => k = g) w10 w11 := by rw [← hw11]; exact (Only.refl (fun k => k = g) w10).setCell_ (p := ⟨g, n * 44 + 42, none⟩) (.inl rfl) _
  have hk11 : Blk w11 C 71 #[.int .i64 (most : Int), .int .i64 (size : Int), .slice (some ⟨g, 0, none⟩) (L ++ [freeRow 0 0]).length c4, .int .i64 (-1)] := HK10.out.only o11 (fun e' => own_blk_ne HS9.out.row HS9.out.blk (by decide) (congrArg some e'.symm))
  have hkb11 := HKB10.out.only o11 (fun e' => own_blk_ne HS9.out.row HKB9.out (by decide) (congrArg some e'.symm))
  have h41 : w11.cell? ⟨g, n * 44 + 41, none⟩ = some (.int .i64 ((freeRow 0 0).s.use : Int)) := by
    obtain ⟨g', c', hv', _, _, hcell, _, _⟩ := HS9.out.at_ HR1.out
    injection hv' with hv' _ _
    injection hv' with hv'
    injection hv' with hv'
    subst hv'
    rw [← hw11, World.cell?_setCell_other _ _ _ _ (by simp), HE10.out, World.cell?_setCells_out g _ _ _ _ (fun _ _ => by right; rw [entCells_len]; exact Nat.le_refl _), hcell 41 (by omega)]
    exact cells_use (freeRow 0 0)
  have HW11 := Lib.hid hw11
  have HK11 := Lib.hid hk11
  have HO11 := Lib.hid o11
  clear hw11 o11 hk11 h42 hf42 qs
  refine hK.out _ _ ⟨by rw [← HN1.out]; exact HK11.out.cell 2, blk_rangeN hkb11⟩ (fun hHeld => ?_)
  clear hK K hkb11
  conv => arg 8; simp only [Act.put, List.setIfInBounds_toArray, List.set_cons_zero, List.set_cons_succ]
  refine wpAnyH_done (by kernel_rfl) ?_ _
  refine NoPanic.normal ?_
  have x1 : w11.cell? ⟨C, 1, none⟩ = some (.int .i64 (size : Int)) := HK11.out.cell 1
  have x2 : w11.cell? ⟨C, 2, none⟩ = some (.slice (some ⟨g, 0, none⟩) (n + 1) c4) := by rw [← HN1.out]; exact HK11.out.cell 2
  have y1 := HK11.out.frozen 1
  have hkh11 : Blk w11 (w.heap.size + 1) 43 #[.int .i64 0, .int .i64 0] :=
    ((HKH2.out.below HB9.out HKH2.out.lt).only HO10.out (fun e' => own_blk_ne HS9.out.row (HKH2.out.below HB9.out HKH2.out.lt) (by decide) (congrArg some e'.symm))).only HO11.out (fun e' => own_blk_ne HS9.out.row (HKH2.out.below HB9.out HKH2.out.lt) (by decide) (congrArg some e'.symm))
  have z0 := hkh11.cell 0
  have z1 := hkh11.cell 1
  have f0 := hkh11.frozen 0
  have f1 := hkh11.frozen 1
  simp at z0 z1
  have hCh : C ≠ w.heap.size + 1 := by have := HS.out.blk.lt; omega
  have hgh : g ≠ w.heap.size + 1 := fun e' => own_blk_ne HS9.out.row (HKH2.out.below HB9.out HKH2.out.lt) (by decide) (congrArg some e')
  have hgC : g ≠ C := fun e' => own_blk_ne HS9.out.row HS9.out.blk (by decide) (congrArg some e')
  have hhl := hkh11.lt
  have HKH11 := Lib.hid hkh11
  have hsi : (size : Int) + 1 = ((size + 1 : Nat) : Int) := by omega
  have HSI := Lib.hid hsi
  clear hkh11 hHeld hu hik hS1 hsi
  go_wp2_with fail
  have hend := add_end (w := w) (wa := w9) HS9.out (HO1.out.trans (Only.of_below (fun _ => False) HB9.out) (fun _ h => h.elim)) hC1 hg1 HR1.out (HE9.out.less (show B ≤ w1.drew.heap.size from Nat.le_trans hB HO1.out.size)) (size + 1)
  rw [← HE10.out, ← HSI.out, show w10.setCell ⟨g, n * 44 + 42, none⟩ (.bool true) = w11 from HW11.out] at hend
  obtain ⟨e1, e2⟩ := hend
  have hkf := HKH11.out.far (p := ⟨C, 1, none⟩) (fun e' => hCh e'.symm) (.int .i64 ((size : Int) + 1))
  have ofin : Only (fun k => k = w.heap.size + 1) (w11.setCell ⟨C, 1, none⟩ (.int .i64 ((size : Int) + 1))) _ := ((Only.refl (fun k => k = w.heap.size + 1) (w11.setCell ⟨C, 1, none⟩ (.int .i64 ((size : Int) + 1)))).setCell_ (p := ⟨w.heap.size + 1, 0, none⟩) (.inl rfl) (.int .i64 (n : Int))).setCell_ (p := ⟨w.heap.size + 1, 1, none⟩) (.inl rfl) (.int .i64 ((freeRow 0 0).s.use : Int))
  have hw9 : w.heap.size ≤ w1.drew.heap.size := HO1.out.size
  have hent : EntAt (w11.setCell ⟨C, 1, none⟩ (.int .i64 ((size : Int) + 1))) w.heap.size e rv9 pv9 := by
    have := e2.ent _ (List.mem_set (by have := HR1.out; exact (List.getElem?_eq_some_iff.1 this).1) (fullRow e (freeRow 0 0) rv9 pv9))
    exact ⟨(owns_from this.raw (HE9.out.less hw9).raw), (owns_from this.peers (HE9.out.less hw9).peers)⟩
  refine bodyPost_ret (results_cell_tmp rfl _ _ (w.heap.size + 1) _ #[.int .i64 (n : Int), .int .i64 ((freeRow 0 0).s.use : Int)] (0, 0) _ rfl ((hkf.set_ 0 _).set_ 1 _) Try.underlying43 rfl (by kernel_rfl)) rfl
    ⟨rfl, e1.trans ofin (fun k hk => .inr (by omega)), _, rv9, pv9, e2.apart ofin (fun k hk => ⟨_, _, hk ▸ hkf, by decide⟩), hent.only ofin (fun k hk e' => own_blk_ne hent.raw hkf (by decide) (e' ▸ hk)) (fun k hk e' => own_blk_ne hent.peers hkf (by decide) (e' ▸ hk))⟩
end Go.Proofs.Ytnihkjhejjeepaa
