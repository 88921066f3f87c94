/- SlabReads: the walk. -/
import Derived.Test.YtnihkjhejjeepaaSlPl
import Derived.Test.YtnihkjhejjeepaaSlbSe
import Derived.Test.YtnihkjhejjeepaaSlbSs
namespace Go.Proofs.Ytnihkjhejjeepaa
open Go.RowKit
set_option linter.unusedVariables false
set_option linter.unusedSimpArgs false
open ShaW Sha

theorem ite_yes {c : Prop} [Decidable c] {p q : Prop} (hc : c) (hp : p) : if c then p else q := by rw [if_pos hc]; exact hp
abbrev Hi := Int × Int
def icells (h : Hi) : List Value := [.int .i64 h.1, .int .i64 h.2]
theorem icells_len (h : Hi) : (icells h).length = 2 := rfl
def ihV (L : List Hi) : List Value := L.flatMap icells
theorem ihV_len (L : List Hi) : (ihV L).length = L.length * 2 := flat_len _ _ icells_len L
theorem ihV_append (L M : List Hi) : ihV (L ++ M) = ihV L ++ ihV M := by unfold ihV; rw [List.flatMap_append]
theorem ihV_oneCell (L : List Hi) : ∀ u ∈ ihV L, u.oneCell' = true := by
  intro u hu
  obtain ⟨h, _, hh⟩ := List.mem_flatMap.1 hu
  simp [icells] at hh
  rcases hh with rfl | rfl <;> rfl
def toI (L : List Hd) : List Hi := L.map fun h => ((h.1 : Int), (h.2 : Int))
theorem hdlsV_toI (L : List Hd) : hdlsV L = ihV (toI L) := by
  induction L with
  | nil => rfl
  | cons a L ih =>
    show hcells a ++ hdlsV L = icells _ ++ ihV (toI L)
    rw [ih]; rfl
theorem ihs_cell {w : World} {base : Nat} {c : Nat} {L : List Hi} {A : Option Addr} (h : w.ownsRow base 43 2 (.slice A L.length c) L.length (ihV L)) {i : Nat} {x : Hi} (hx : L[i]? = some x) :
    ∃ g, A = some ⟨g, 0, none⟩ ∧ w.cell? ⟨g, i * 2, none⟩ = some (.int .i64 x.1) ∧ w.cell? ⟨g, i * 2 + 1, none⟩ = some (.int .i64 x.2) ∧ g < w.heap.size := by
  have hi := (List.getElem?_eq_some_iff.1 hx).1
  obtain ⟨g, c', hv, h1, h2⟩ := h.form (by omega)
  injection hv with e1 _ e3
  subst e1 e3
  refine ⟨g, rfl, ?_, ?_, by omega⟩
  · have := h.cellAt (i * 2) (by omega)
    rw [this]
    exact (flat_get _ _ icells_len L hx (j := 0) (by omega)).trans rfl
  · have := h.cellAt (i * 2 + 1) (by omega)
    rw [this]
    exact (flat_get _ _ icells_len L hx (j := 1) (by omega)).trans rfl
theorem ilit_own (w : World) (a b : Int) : (w.alloc (.cells #[.int .i64 a, .int .i64 b] 43)).ownsRow w.heap.size 43 2 (.slice (some ⟨w.heap.size, 0, none⟩) 1 1) 1 (ihV [(a, b)]) :=
  ⟨rfl, .inr ⟨w.heap.size, 1, #[.int .i64 a, .int .i64 b], rfl, Nat.le_refl _, heap_alloc_new _ _, Nat.le_refl _, by unfold maxLen; omega, rfl, rfl⟩⟩
theorem i3_fill (a b c d e f : Int) (ie : TypeInfo) (hs : ie.size = 2) : Instr.fill (fun i => some (i * ie.size, ie.size)) ((Array.range (3 * ie.size)).map ((Value.agg #[.int .i64 0, .int .i64 0]).cells[· % (Value.agg #[.int .i64 0, .int .i64 0]).cells.size]!)) [(0, .agg #[.int .i64 a, .int .i64 b]), (1, .agg #[.int .i64 c, .int .i64 d]), (2, .agg #[.int .i64 e, .int .i64 f])] = some #[.int .i64 a, .int .i64 b, .int .i64 c, .int .i64 d, .int .i64 e, .int .i64 f] := by
  rw [hs]
  kernel_rfl
theorem i3_reads (w : World) (a b c : Hi) : Reads (w.alloc (.cells #[.int .i64 a.1, .int .i64 a.2, .int .i64 b.1, .int .i64 b.2, .int .i64 c.1, .int .i64 c.2] 43)) (w.alloc (.cells #[.int .i64 a.1, .int .i64 a.2, .int .i64 b.1, .int .i64 b.2, .int .i64 c.1, .int .i64 c.2] 43)).heap.size 2 (some ⟨w.heap.size, 0, none⟩) 3 (ihV [a, b, c]) := by
  refine ⟨by rw [ihV_len]; rfl, fun _ => ⟨_, rfl, by simp, fun j u hu => ?_⟩⟩
  rw [add_flat, Nat.zero_add, World.cell?_alloc_at _ _ _ _ rfl]
  exact (List.getElem?_toArray (xs := ihV [a, b, c])).trans hu
structure RdSt (w3 : World) (B C g6 gr : Nat) (m : RSt) (pv fv : Value) (L : List PRow) (k : Nat) (s u : Int) (W : World) : Prop where
  slb : SlR W B C m
  ref : RefS W B pv fv m L
  box : Blk W g6 28 #[.int .i64 (m.most : Int), pv, fv]
  raw : Blk W gr 43 #[.int .i64 s, .int .i64 u]
  wf : WfR m k
  bel : Below w3.heap.size w3 W
theorem RdSt.below {w3 : World} {B C g6 gr : Nat} {m : RSt} {pv fv : Value} {L : List PRow} {k : Nat} {s u : Int} {W W' : World} (h : RdSt w3 B C g6 gr m pv fv L k s u W) (hb : Below W.heap.size W W') : RdSt w3 B C g6 gr m pv fv L k s u W' :=
  ⟨h.slb.below hb, h.ref.below hb, h.box.below hb h.box.lt, h.raw.below hb h.raw.lt, h.wf, h.bel.trans (hb.mono h.bel.size)⟩
set_option maxRecDepth 100000 in
set_option maxHeartbeats 16000000 in
attribute [local go_sem ↓] wp_store_ent wp_load_ent in
theorem slabReads_any (w : World) (A : Option Addr) (n c : Nat) (f : Nat → Int) (h : IntsAt w w.heap.size A n c f) (s u : Int) :
    Calls Try.prog 6 #[.slice A n c, hdl s u] w fun e w' => e = .returned (.bool true) ∧ Below w.heap.size w w' := by
  obtain ⟨i0, hi0, hz0', hz1, hz2⟩ := info_parts hdl_info
  have HI0 := Lib.hid hi0
  have HZ0 := Lib.hid hz0'
  clear hi0 hz0'
  have hnc : n ≤ 9223372036854775807 := Nat.le_trans h.1 h.2.1
  have HI := Lib.hid h
  clear h
  go_enter Try.func6, Try.ntmps6
  go_upto_region 1 with (fail)
  generalize hwa : World.alloc w _ = wz
  have hbz : Below w.heap.size w wz := by rw [← hwa]; exact (Below.refl _ _).alloc (Nat.le_refl _) _
  have hrz : Blk wz w.heap.size 43 #[.int .i64 s, .int .i64 u] := by rw [← hwa]; exact heap_alloc_new _ _
  have HIZ := Lib.hid ((HI.out.below hbz).more hbz.size)
  have HBZ := Lib.hid hbz
  have HRZ := Lib.hid hrz
  obtain ⟨gr, hgr⟩ : ∃ g, w.heap.size = g := ⟨_, rfl⟩
  have HGR := Lib.hid hgr
  rw [hgr] at HRZ ⊢
  clear hwa hbz hrz HI hgr
  by_cases hbig : 160 < n
  · have hb : decide (160 < (n : Int)) = true := by simp; omega
    go_wp2_with fail
    refine (long_any wz A n c _ _ rfl hnc true hb).mono ?_
    rintro e w1 ⟨rfl, rfl⟩
    go_wp2_with fail
    refine (known_any _).mono ?_
    rintro e w1 ⟨rfl, hb1⟩
    have HB := Lib.hid ((HBZ.out.trans (((Below.refl wz.heap.size wz).alloc (Nat.le_refl _) _).mono HBZ.out.size)).trans (hb1.mono (by rw [World.size_alloc]; have := HBZ.out.size; omega)))
    clear hb1
    go_wp2_with fail
    go_ret
    exact ⟨rfl, HB.out⟩
  have hb : decide (160 < (n : Int)) = false := by simp; omega
  have hn : n ≤ 160 := by omega
  clear hbig
  go_wp2_with fail
  refine (long_any wz A n c _ _ rfl hnc false hb).mono ?_
  rintro e w1 ⟨rfl, rfl⟩
  go_wp2_with fail
  generalize hwa : World.alloc wz _ = wa
  have hb0 : Below wz.heap.size wz wa := by rw [← hwa]; exact (Below.refl _ _).alloc (Nat.le_refl _) _
  have hI : IntsAt wa wa.heap.size A n c f := (HIZ.out.below hb0).more hb0.size
  have HB0 := Lib.hid (HBZ.out.trans (hb0.mono HBZ.out.size))
  have HRA := Lib.hid (HRZ.out.below hb0 HRZ.out.lt)
  have hz0 := HB0.out.size
  clear hwa hb0 hb HIZ
  refine (play_any wa wa.heap.size n c A f hI (Nat.le_refl _) hn).mono ?_
  rintro e w2 ⟨C, m, pv, fv, L, k, rfl, hb2, hz2', hs2, hr2, hw2, hk2⟩
  obtain ⟨Ap, cp, hpv⟩ := own_form hr2.row
  obtain ⟨Af, cf, hfv⟩ := own_form hr2.fre
  obtain ⟨pn, hpn⟩ : ∃ x, L.length = x := ⟨_, rfl⟩
  obtain ⟨fn, hfn⟩ : ∃ x, m.fr.length = x := ⟨_, rfl⟩
  obtain ⟨most, hmo⟩ : ∃ x, m.most = x := ⟨_, rfl⟩
  rw [hpn] at hpv
  rw [hfn] at hfv
  have HSV : Hid (storeV m pv fv = .agg #[.int .i64 (most : Int), .slice Ap pn cp, .slice Af fn cf]) := Lib.hid (by rw [hpv, hfv, ← hmo])
  rw [HSV.out]
  have HB2 := Lib.hid (HB0.out.trans (hb2.mono hz0))
  have HR2 := Lib.hid (HRA.out.below hb2 HRA.out.lt)
  have HS2 := Lib.hid hs2
  have HF2 := Lib.hid hr2
  have HPV := Lib.hid (And.intro hpv (And.intro hfv hmo))
  have HW := Lib.hid hw2
  clear hb2 hs2 hr2 hw2 hpv hfv hpn hfn hmo hI HRA HRZ
  go_upto_region 4 with (fail)
  generalize hwa : World.alloc _ _ = w3
  have hb3 : Below w2.heap.size w2 w3 := by rw [← hwa]; exact (Below.refl _ _).alloc (Nat.le_refl _) _
  have hx3 : Blk w3 w2.heap.size 28 #[.int .i64 (most : Int), .slice Ap pn cp, .slice Af fn cf] := by rw [← hwa]; exact heap_alloc_new _ _
  have HB3 := Lib.hid (HB2.out.trans (hb3.mono HB2.out.size))
  obtain ⟨g6, hg6⟩ : ∃ g, w2.heap.size = g := ⟨_, rfl⟩
  rw [hg6] at hx3 ⊢
  obtain ⟨B, hBB⟩ : ∃ B, wa.heap.size = B := ⟨_, rfl⟩
  have HST : Hid (RdSt w3 B C g6 gr m pv fv L k s u w3) := by
    rw [hBB] at HS2 HF2
    exact ⟨HS2.out.below hb3, HF2.out.below hb3, by rw [HPV.out.1, HPV.out.2.1, HPV.out.2.2]; exact hx3, HR2.out.below hb3 HR2.out.lt, HW.out, Below.refl _ _⟩
  have y0 : w3.cell? ⟨g6, 0, none⟩ = some (.int .i64 (most : Int)) := hx3.cell 0
  have y1 : w3.cell? ⟨g6, 1, none⟩ = some (.slice Ap pn cp) := hx3.cell 1
  have y2 : w3.cell? ⟨g6, 2, none⟩ = some (.slice Af fn cf) := hx3.cell 2
  have hgl := hx3.lt
  have HBX : Hid (∀ W, Below w3.heap.size w3 W → W.cell? ⟨g6, 0, none⟩ = some (.int .i64 (most : Int)) ∧ W.cell? ⟨g6, 1, none⟩ = some (.slice Ap pn cp) ∧ W.cell? ⟨g6, 2, none⟩ = some (.slice Af fn cf)) := fun W hW => ⟨(hW.cell (p := ⟨g6, 0, none⟩) hgl).trans y0, (hW.cell (p := ⟨g6, 1, none⟩) hgl).trans y1, (hW.cell (p := ⟨g6, 2, none⟩) hgl).trans y2⟩
  obtain ⟨ct, hct⟩ : ∃ x, cntP m.pl = x := ⟨_, rfl⟩
  obtain ⟨sz, hsz⟩ : ∃ x, sizeP m.pl = x := ⟨_, rfl⟩
  have HLN : Hid (∀ W, Below w3.heap.size w3 W → Calls Try.prog 19 #[.pointer (some ⟨C, 0, none⟩)] W fun e w' => e = .returned (.int .i64 (ct : Int)) ∧ W = w') := fun W hW => by rw [← hct]; exact rlen_any W B C m (HST.out.below hW).slb
  have HBY : Hid (∀ W, Below w3.heap.size w3 W → Calls Try.prog 21 #[.pointer (some ⟨C, 0, none⟩)] W fun e w' => e = .returned (.int .i64 (sz : Int)) ∧ Below W.heap.size W w') := fun W hW => by rw [← hsz]; exact rbytes_any W B C m k (HST.out.below hW).slb HW.out (by omega)
  have HCN : Hid (∀ W, Below w3.heap.size w3 W → Calls Try.prog 20 #[.agg #[.int .i64 (most : Int), .slice Ap pn cp, .slice Af fn cf]] W fun e w' => e = .returned (.int .i64 (ct : Int)) ∧ Below W.heap.size W w') := fun W hW => by rw [← hct, ← HSV.out]; exact rcount_any W B pv fv m L k (HST.out.below hW).ref HW.out (by omega)
  have HSZ : Hid (∀ W, Below w3.heap.size w3 W → Calls Try.prog 22 #[.agg #[.int .i64 (most : Int), .slice Ap pn cp, .slice Af fn cf]] W fun e w' => e = .returned (.int .i64 (sz : Int)) ∧ Below W.heap.size W w') := fun W hW => by rw [← hsz, ← HSV.out]; exact rsize_any W B pv fv m L k (HST.out.below hW).ref HW.out (by omega)
  have HCT := Lib.hid hct
  have HBR := Lib.hid (Below.refl w3.heap.size w3)
  clear hwa hb3 hx3 hg6 hBB hct hsz HR2 HS2 HF2
  refine wp_region_noPanic ?_
  refine wp_region_held_drew (S := fun W => W.cell? ⟨g6, 0, none⟩ = some (.int .i64 (most : Int)) ∧ W.cell? ⟨g6, 1, none⟩ = some (.slice Ap pn cp) ∧ W.cell? ⟨g6, 2, none⟩ = some (.slice Af fn cf)) (by kernel_rfl) ⟨y0, y1, y2⟩ (fun hHeld => ?_)
  refine wpAnyH_take (i := 0) (oi := ⟨some 29, _, _, _, _, _⟩) (v := ?_) rfl (by kernel_rfl) (by kernel_rfl) (by kernel_rfl) (fun _ _ _ h => h) (Or.inl ⟨by kernel_rfl, ?_⟩) hHeld ?_
  rotate_left
  · intro w hSw
    obtain ⟨s0, s1, s2⟩ := hSw
    go_simp
    all_goals (with_reducible rfl)
  conv => arg 8; simp only [Act.put, List.setIfInBounds_toArray, List.set_cons_zero, List.set_cons_succ]
  refine wpAnyH_take (i := 1) (oi := ⟨some 30, _, _, _, _, _⟩) (v := ?_) rfl (by kernel_rfl) (by kernel_rfl) (by kernel_rfl) (fun _ _ _ h => h) (Or.inl ⟨by kernel_rfl, ?_⟩) hHeld ?_
  rotate_left
  · intro w hSw
    obtain ⟨s0, s1, s2⟩ := hSw
    go_simp
    all_goals (with_reducible rfl)
  conv => arg 8; simp only [Act.put, List.setIfInBounds_toArray, List.set_cons_zero, List.set_cons_succ]
  refine wpAnyH_take (i := 2) (oi := ⟨some 31, _, _, _, _, _⟩) (v := ?_) rfl (by kernel_rfl) (by kernel_rfl) (by kernel_rfl) (fun _ _ _ h => h) (Or.inl ⟨by kernel_rfl, ?_⟩) hHeld ?_
  rotate_left
  · intro w hSw
    obtain ⟨s0, s1, s2⟩ := hSw
    go_simp
    all_goals (with_reducible rfl)
  conv => arg 8; simp only [Act.put, List.setIfInBounds_toArray, List.set_cons_zero, List.set_cons_succ]
  refine wpAnyH_take (i := 3) (oi := ⟨some 32, _, _, _, _, _⟩) (v := ?_) rfl (by kernel_rfl) (by kernel_rfl) (by kernel_rfl) (fun _ _ _ h => h) (Or.inl ⟨by kernel_rfl, ?_⟩) hHeld ?_
  rotate_left
  · intro w hSw
    obtain ⟨s0, s1, s2⟩ := hSw
    go_simp
    all_goals (with_reducible rfl)
  conv => arg 8; simp only [Act.put, List.setIfInBounds_toArray, List.set_cons_zero, List.set_cons_succ]
  refine wpAnyH_take (i := 5) (oi := ⟨some 34, _, _, _, _, _⟩) (v := ?_) rfl (by kernel_rfl) (by kernel_rfl) (by kernel_rfl) (fun _ _ _ h => h) (Or.inl ⟨by kernel_rfl, ?_⟩) hHeld ?_
  rotate_left
  · intro w hSw
    obtain ⟨s0, s1, s2⟩ := hSw
    go_simp
    all_goals (with_reducible rfl)
  conv => arg 8; simp only [Act.put, List.setIfInBounds_toArray, List.set_cons_zero, List.set_cons_succ]
  refine wpAnyH_ready (rs := [4]) (by kernel_rfl) (by simp) ?_
  refine AllReadyH.cons (o := ⟨some 33, _, _, _, _, _⟩) rfl (fun K hK => ?_) AllReadyH.nil
  refine ite_yes (by kernel_rfl) ?_
  go_simp
  go_at_call 19
  (with_reducible refine (HLN.out _ (belowDrewR HBR.out)).mono ?_)
  rintro e4 w' ⟨rfl, rfl⟩
  refine hK.out _ _ (HBX.out _ (belowDrewR HBR.out)) (fun hHeld => ?_)
  clear hK K
  conv => arg 8; simp only [Act.put, List.setIfInBounds_toArray, List.set_cons_zero, List.set_cons_succ]
  refine wpAnyH_ready (rs := [6]) (by kernel_rfl) (by simp) ?_
  refine AllReadyH.cons (o := ⟨some 35, _, _, _, _, _⟩) rfl (fun K hK => ?_) AllReadyH.nil
  refine ite_yes (by kernel_rfl) ?_
  go_simp
  go_at_call 20
  (with_reducible refine (HCN.out _ (belowDrewR HBR.out)).mono ?_)
  rintro e4 w5 ⟨rfl, hb5⟩
  have HB5_ := Lib.hid ((belowDrewR HBR.out).trans (hb5.mono (belowDrewR HBR.out).size))
  clear hb5
  refine hK.out _ _ (HBX.out _ HB5_.out) (fun hHeld => ?_)
  clear hK K
  conv => arg 8; simp only [Act.put, List.setIfInBounds_toArray, List.set_cons_zero, List.set_cons_succ]
  refine wpAnyH_take (i := 7) (oi := ⟨some 36, _, _, _, _, _⟩) (v := ?_) rfl (by kernel_rfl) (by kernel_rfl) (by kernel_rfl) (fun _ _ _ h => h) (Or.inl ⟨by kernel_rfl, ?_⟩) hHeld ?_
  rotate_left
  · intro w hSw
    obtain ⟨s0, s1, s2⟩ := hSw
    go_simp
    all_goals (with_reducible rfl)
  conv => arg 8; simp only [Act.put, List.setIfInBounds_toArray, List.set_cons_zero, List.set_cons_succ]
  refine wpAnyH_take (i := 8) (oi := ⟨some 37, _, _, _, _, _⟩) (v := ?_) rfl (by kernel_rfl) (by kernel_rfl) (by kernel_rfl) (fun _ _ _ h => h) (Or.inl ⟨by kernel_rfl, ?_⟩) hHeld ?_
  rotate_left
  · intro w hSw
    obtain ⟨s0, s1, s2⟩ := hSw
    go_simp
    all_goals (with_reducible rfl)
  conv => arg 8; simp only [Act.put, List.setIfInBounds_toArray, List.set_cons_zero, List.set_cons_succ]
  refine wpAnyH_take (i := 9) (oi := ⟨some 38, _, _, _, _, _⟩) (v := ?_) rfl (by kernel_rfl) (by kernel_rfl) (by kernel_rfl) (fun _ _ _ h => h) (Or.inl ⟨by kernel_rfl, ?_⟩) hHeld ?_
  rotate_left
  · intro w hSw
    obtain ⟨s0, s1, s2⟩ := hSw
    go_simp
    all_goals (with_reducible rfl)
  conv => arg 8; simp only [Act.put, List.setIfInBounds_toArray, List.set_cons_zero, List.set_cons_succ]
  refine wpAnyH_take (i := 10) (oi := ⟨some 39, _, _, _, _, _⟩) (v := ?_) rfl (by kernel_rfl) (by kernel_rfl) (by kernel_rfl) (fun _ _ _ h => h) (Or.inl ⟨by kernel_rfl, ?_⟩) hHeld ?_
  rotate_left
  · intro w hSw
    obtain ⟨s0, s1, s2⟩ := hSw
    go_simp
    all_goals (with_reducible rfl)
  conv => arg 8; simp only [Act.put, List.setIfInBounds_toArray, List.set_cons_zero, List.set_cons_succ]
  refine wpAnyH_take (i := 12) (oi := ⟨some 41, _, _, _, _, _⟩) (v := ?_) rfl (by kernel_rfl) (by kernel_rfl) (by kernel_rfl) (fun _ _ _ h => h) (Or.inl ⟨by kernel_rfl, ?_⟩) hHeld ?_
  rotate_left
  · intro w hSw
    obtain ⟨s0, s1, s2⟩ := hSw
    go_simp
    all_goals (with_reducible rfl)
  conv => arg 8; simp only [Act.put, List.setIfInBounds_toArray, List.set_cons_zero, List.set_cons_succ]
  refine wpAnyH_ready (rs := [11]) (by kernel_rfl) (by simp) ?_
  refine AllReadyH.cons (o := ⟨some 40, _, _, _, _, _⟩) rfl (fun K hK => ?_) AllReadyH.nil
  refine ite_yes (by kernel_rfl) ?_
  go_simp
  go_at_call 21
  (with_reducible refine (HBY.out _ HB5_.out).mono ?_)
  rintro e4 w6 ⟨rfl, hb6⟩
  have HB6_ := Lib.hid (HB5_.out.trans (hb6.mono HB5_.out.size))
  clear hb6
  refine hK.out _ _ (HBX.out _ HB6_.out) (fun hHeld => ?_)
  clear hK K
  conv => arg 8; simp only [Act.put, List.setIfInBounds_toArray, List.set_cons_zero, List.set_cons_succ]
  refine wpAnyH_ready (rs := [13]) (by kernel_rfl) (by simp) ?_
  refine AllReadyH.cons (o := ⟨some 42, _, _, _, _, _⟩) rfl (fun K hK => ?_) AllReadyH.nil
  refine ite_yes (by kernel_rfl) ?_
  go_simp
  go_at_call 22
  (with_reducible refine (HSZ.out _ HB6_.out).mono ?_)
  rintro e4 w7 ⟨rfl, hb7⟩
  have HB7_ := Lib.hid (HB6_.out.trans (hb7.mono HB6_.out.size))
  clear hb7
  refine hK.out _ _ (HBX.out _ HB7_.out) (fun hHeld => ?_)
  clear hK K
  conv => arg 8; simp only [Act.put, List.setIfInBounds_toArray, List.set_cons_zero, List.set_cons_succ]
  refine wpAnyH_take (i := 14) (oi := ⟨some 43, _, _, _, _, _⟩) (v := ?_) rfl (by kernel_rfl) (by kernel_rfl) (by kernel_rfl) (fun _ _ _ h => h) (Or.inl ⟨by kernel_rfl, ?_⟩) hHeld ?_
  rotate_left
  · intro w hSw
    obtain ⟨s0, s1, s2⟩ := hSw
    go_simp
    all_goals (with_reducible rfl)
  conv => arg 8; simp only [Act.put, List.setIfInBounds_toArray, List.set_cons_zero, List.set_cons_succ]
  refine wpAnyH_take (i := 15) (oi := ⟨some 44, _, _, _, _, _⟩) (v := ?_) rfl (by kernel_rfl) (by kernel_rfl) (by kernel_rfl) (fun _ _ _ h => h) (Or.inl ⟨by kernel_rfl, ?_⟩) hHeld ?_
  rotate_left
  · intro w hSw
    obtain ⟨s0, s1, s2⟩ := hSw
    go_simp
    all_goals (with_reducible rfl)
  conv => arg 8; simp only [Act.put, List.setIfInBounds_toArray, List.set_cons_zero, List.set_cons_succ]
  refine wpAnyH_done (by kernel_rfl) ?_ _
  refine NoPanic.normal ?_
  clear hHeld y0 y1 y2 HLN HBY HCN HSZ
  have HSP : Hid (∀ W, Below w3.heap.size w3 W → Calls Try.prog 23 #[.pointer (some ⟨C, 0, none⟩)] W fun e w' => ∃ A c, e = .returned (.slice A ct c) ∧ Below W.heap.size W w' ∧ w'.ownsRow W.heap.size 43 2 (.slice A ct c) (hdlsP m.pl).length (hdlsV (hdlsP m.pl))) := fun W hW => by
    have h1 := shandles_any W B C m k (HST.out.below hW).slb HW.out (by omega)
    rw [HCT.out] at h1
    exact h1
  have HSR : Hid (∀ W, Below w3.heap.size w3 W → Calls Try.prog 24 #[.agg #[.int .i64 (most : Int), .slice Ap pn cp, .slice Af fn cf]] W fun e w' => ∃ A c, e = .returned (.slice A ct c) ∧ Below W.heap.size W w' ∧ w'.ownsRow W.heap.size 43 2 (.slice A ct c) (hdlsP m.pl).length (hdlsV (hdlsP m.pl))) := fun W hW => by
    have h1 := rhandles_any W B pv fv m L k (HST.out.below hW).ref HW.out (by omega)
    rw [HSV.out, HCT.out] at h1
    exact h1
  obtain ⟨LI, hLI⟩ : ∃ l, toI (hdlsP m.pl) = l := ⟨_, rfl⟩
  have hll : LI.length = ct := by rw [← hLI]; unfold toI; rw [List.length_map, hdlsP_len]; exact HCT.out
  have hct2 : ct ≤ 1000 := by have h1 := cntP_len m.pl; have h2 := HW.out.len; have h3 := HCT.out; omega
  have HLI := Lib.hid hLI
  have HLL := Lib.hid hll
  have HCV : Hid (∀ (W : World) (v : Value) (b0 : Nat), W.ownsRow b0 43 2 v (hdlsP m.pl).length (hdlsV (hdlsP m.pl)) → w3.heap.size ≤ b0 → W.ownsRow w3.heap.size 43 2 v ct (ihV LI)) := fun W v b0 h1 h2 => by
    rw [hdlsV_toI, HLI.out, hdlsP_len, HCT.out] at h1
    exact owns_base2 h1 h2
  clear hLI hll
  go_upto_region 6 with (fail)
  refine wp_region_noPanic ?_
  refine wp_region_held_drew (S := fun W => W.cell? ⟨g6, 0, none⟩ = some (.int .i64 (most : Int)) ∧ W.cell? ⟨g6, 1, none⟩ = some (.slice Ap pn cp) ∧ W.cell? ⟨g6, 2, none⟩ = some (.slice Af fn cf)) (by kernel_rfl) (HBX.out _ (belowDrewR HB7_.out)) (fun hHeld => ?_)
  refine wpAnyH_take (i := 0) (oi := ⟨some 45, _, _, _, _, _⟩) (v := ?_) rfl (by kernel_rfl) (by kernel_rfl) (by kernel_rfl) (fun _ _ _ h => h) (Or.inl ⟨by kernel_rfl, ?_⟩) hHeld ?_
  rotate_left
  · intro w hSw
    obtain ⟨s0, s1, s2⟩ := hSw
    go_simp
    all_goals (with_reducible rfl)
  conv => arg 8; simp only [Act.put, List.setIfInBounds_toArray, List.set_cons_zero, List.set_cons_succ]
  refine wpAnyH_take (i := 2) (oi := ⟨some 47, _, _, _, _, _⟩) (v := ?_) rfl (by kernel_rfl) (by kernel_rfl) (by kernel_rfl) (fun _ _ _ h => h) (Or.inl ⟨by kernel_rfl, ?_⟩) hHeld ?_
  rotate_left
  · intro w hSw
    obtain ⟨s0, s1, s2⟩ := hSw
    go_simp
    all_goals (with_reducible rfl)
  conv => arg 8; simp only [Act.put, List.setIfInBounds_toArray, List.set_cons_zero, List.set_cons_succ]
  refine wpAnyH_ready (rs := [1]) (by kernel_rfl) (by simp) ?_
  refine AllReadyH.cons (o := ⟨some 46, _, _, _, _, _⟩) rfl (fun K hK => ?_) AllReadyH.nil
  go_simp
  go_at_call 23
  (with_reducible refine (HSP.out _ (belowDrewR HB7_.out)).mono ?_)
  rintro e8 w8 ⟨A8, c8, rfl, hb8, ho8⟩
  have HB8_ := Lib.hid ((belowDrewR HB7_.out).trans (hb8.mono (belowDrewR HB7_.out).size))
  have HO8 := Lib.hid (HCV.out _ _ _ ho8 (belowDrewR HB7_.out).size)
  clear hb8 ho8
  refine hK.out _ _ (HBX.out _ HB8_.out) (fun hHeld => ?_)
  clear hK K
  conv => arg 8; simp only [Act.put, List.setIfInBounds_toArray, List.set_cons_zero, List.set_cons_succ]
  refine wpAnyH_ready (rs := [3]) (by kernel_rfl) (by simp) ?_
  refine AllReadyH.cons (o := ⟨some 48, _, _, _, _, _⟩) rfl (fun K hK => ?_) AllReadyH.nil
  go_simp
  go_at_call 24
  (with_reducible refine (HSR.out _ HB8_.out).mono ?_)
  rintro e9 w9 ⟨A9, c9, rfl, hb9, ho9⟩
  have HB9_ := Lib.hid (HB8_.out.trans (hb9.mono HB8_.out.size))
  have HO9 := Lib.hid (HCV.out _ _ _ ho9 HB8_.out.size)
  have HO8n := Lib.hid (owns_below HO8.out hb9)
  clear hb9 ho9
  refine hK.out _ _ (HBX.out _ HB9_.out) (fun hHeld => ?_)
  clear hK K
  conv => arg 8; simp only [Act.put, List.setIfInBounds_toArray, List.set_cons_zero, List.set_cons_succ]
  refine wpAnyH_take (i := 4) (oi := ⟨some 8, _, _, _, _, _⟩) (v := ?_) rfl (by kernel_rfl) (by kernel_rfl) (by kernel_rfl) (fun _ _ _ h => h) (Or.inl ⟨by kernel_rfl, ?_⟩) hHeld ?_
  rotate_left
  · intro w hSw
    obtain ⟨s0, s1, s2⟩ := hSw
    go_simp
    all_goals (with_reducible rfl)
  conv => arg 8; simp only [Act.put, List.setIfInBounds_toArray, List.set_cons_zero, List.set_cons_succ]
  refine wpAnyH_take (i := 5) (oi := ⟨some 9, _, _, _, _, _⟩) (v := ?_) rfl (by kernel_rfl) (by kernel_rfl) (by kernel_rfl) (fun _ _ _ h => h) (Or.inl ⟨by kernel_rfl, ?_⟩) hHeld ?_
  rotate_left
  · intro w hSw
    obtain ⟨s0, s1, s2⟩ := hSw
    go_simp
    all_goals (with_reducible rfl)
  conv => arg 8; simp only [Act.put, List.setIfInBounds_toArray, List.set_cons_zero, List.set_cons_succ]
  refine wpAnyH_done (by kernel_rfl) ?_ _
  refine NoPanic.normal ?_
  clear hHeld HSP HSR HO8
  go_wp2_with fail
  go_loopw [56] (fun i wr => ∃ y q : Nat, y ≤ ct ∧ i = .int .i64 (y : Int) ∧ wr = w9.drewN q) (fun i _ => ct - (intOf i).toNat)
  case atStart => exact ⟨0, 0, by omega, rfl, rfl⟩
  case round =>
    obtain ⟨y, q, hy, rfl, rfl⟩ := hrel
    rcases Nat.lt_or_ge y ct with hlt | hge
    · have t1 : (y : Int) < (ct : Int) := by omega
      have t2 : (0 : Int) ≤ y := by omega
      obtain ⟨x, hx⟩ : ∃ x, LI[y]? = some x := ⟨_, List.getElem?_eq_getElem (by rw [HLL.out]; exact hlt)⟩
      have h8 := HO8n.out
      have h9 := HO9.out
      rw [← HLL.out] at h8 h9
      obtain ⟨g8, hA8, k0, k1, _⟩ := ihs_cell h8 hx
      obtain ⟨g9, hA9, l0, l1, _⟩ := ihs_cell h9 hx
      subst hA8
      subst hA9
      obtain ⟨xa, hxa⟩ : ∃ z : Int, x.1 = z := ⟨_, rfl⟩
      obtain ⟨xb, hxb⟩ : ∃ z : Int, x.2 = z := ⟨_, rfl⟩
      rw [hxa] at k0 l0
      rw [hxb] at k1 l1
      clear h8 h9 hx hxa hxb
      go_wp2_with fail
      go_quiet (fail)
      go_wp2_with fail
      go_roundw
      case rel => exact ⟨y + 1, _, by omega, by go_num, rfl⟩
      case measure => simp [intOf]; omega
    · obtain rfl : y = ct := by omega
      have t1 : ¬ (y : Int) < (y : Int) := by omega
      go_upto_region 15 with (fail)
      generalize hwq : World.drewN w9 q = w10
      have hbq : Below w9.heap.size w9 w10 := by rw [← hwq]; exact below_drewN (Below.refl _ w9) q
      have HB10_ := Lib.hid (HB9_.out.trans (hbq.mono HB9_.out.size))
      have HO10 := Lib.hid (owns_below HO9.out hbq)
      have HR10 := Lib.hid (HST.out.below HB10_.out).raw
      have k0 : w10.cell? ⟨gr, 0, none⟩ = some (.int .i64 s) := HR10.out.cell 0
      have k1 : w10.cell? ⟨gr, 1, none⟩ = some (.int .i64 u) := HR10.out.cell 1
      have hrl := HR10.out.lt
      have HBS := Lib.hid (Below.refl w10.heap.size w10)
      have hz10 := HB10_.out.size
      clear hwq hbq
      go_cut [11] (fun s11 wx => ∃ LA : List Hi, wx.ownsRow w3.heap.size 43 2 s11 LA.length (ihV LA) ∧ LA.length ≤ 1001 ∧ Below w3.heap.size w3 wx)
      case first =>
        refine wp_region_noPanic ?_
        refine wp_region_held_drew (S := fun W => W.cell? ⟨gr, 0, none⟩ = some (.int .i64 s) ∧ W.cell? ⟨gr, 1, none⟩ = some (.int .i64 u)) (by kernel_rfl) ⟨k0, k1⟩ (fun hHeld => ?_)
        refine wpAnyH_take (i := 1) (oi := ⟨some 70, _, _, _, _, _⟩) (v := ?_) rfl (by kernel_rfl) (by kernel_rfl) (by kernel_rfl) (fun _ _ _ h => h) (Or.inl ⟨by kernel_rfl, ?_⟩) hHeld ?_
        rotate_left
        · intro w hSw
          obtain ⟨s0, s1⟩ := hSw
          go_simp
          all_goals (with_reducible rfl)
        conv => arg 8; simp only [Act.put, List.setIfInBounds_toArray, List.set_cons_zero, List.set_cons_succ]
        refine wpAnyH_take (i := 3) (oi := ⟨some 72, _, _, _, _, _⟩) (v := ?_) rfl (by kernel_rfl) (by kernel_rfl) (by kernel_rfl) (fun _ _ _ h => h) (Or.inl ⟨by kernel_rfl, ?_⟩) hHeld ?_
        rotate_left
        · intro w hSw
          obtain ⟨s0, s1⟩ := hSw
          go_simp
          all_goals (with_reducible rfl)
        conv => arg 8; simp only [Act.put, List.setIfInBounds_toArray, List.set_cons_zero, List.set_cons_succ]
        refine wpAnyH_ready (rs := [0, 4]) (by kernel_rfl) (by simp) ?_
        refine AllReadyH.cons (o := ⟨some 69, _, _, _, _, _⟩) rfl (fun K hK => ?_) (AllReadyH.cons (o := ⟨some 73, _, _, _, _, _⟩) rfl (fun K hK => ?_) AllReadyH.nil)
        · go_simp
          generalize hW : World.drew (World.alloc _ _) = y1
          have hb1 : Below w10.heap.size w10 y1 := by rw [← hW]; exact belowDrewR ((Below.refl _ _).alloc (Nat.le_refl _) _)
          have ho1 : y1.ownsRow w10.heap.size 43 2 (.slice (some ⟨w10.heap.size, 0, none⟩) 0 0) 0 [] := by rw [← hW]; exact (owns_base2 (hempty_own w10) HBS.out.size).drew
          have HE1 := Lib.hid ho1
          have HB1y := Lib.hid (HBS.out.trans (hb1.mono HBS.out.size))
          clear hW hb1 ho1 hHeld
          refine hK.out _ _ ⟨(HB1y.out.cell hrl).trans k0, (HB1y.out.cell hrl).trans k1⟩ (fun hHeld => ?_)
          clear hK K
          conv => arg 8; simp only [Act.put, List.setIfInBounds_toArray, List.set_cons_zero, List.set_cons_succ]
          refine wpAnyH_ready (rs := [2, 4]) (by kernel_rfl) (by simp) ?_
          refine AllReadyH.cons (o := ⟨some 71, _, _, _, _, _⟩) rfl (fun K hK => ?_) (AllReadyH.cons (o := ⟨some 73, _, _, _, _, _⟩) rfl (fun K hK => ?_) AllReadyH.nil)
          · refine step_append_any _ (by rfl) (.tmp 69) (.tmp 70) _ (by rfl) w10.heap.size 43 i0 _ 2 16 Try.underlying50 HI0.out HZ0.out hz1 hz2 rfl (by omega) (.slice (some ⟨w10.heap.size, 0, none⟩) 0 0) 0 ([]) (by rfl) HE1.out _ A9 (y) c9 (ihV LI) (by rfl) (Reads.of_own (owns_below HO10.out HB1y.out)) (ihV_oneCell _) (by unfold maxLen; omega) (by omega) HB1y.out.size ?_
            intro v2 y2 ho2 hg2 hat2
            rw [Nat.zero_add, List.nil_append] at ho2
            obtain ⟨AA2, cc2, rfl⟩ := own_form ho2
            have hq2 : Below w10.heap.size w10 y2 := HB1y.out.grown hg2 HB1y.out.size (fun g e => (HE1.out.lt g e).1)
            have HE2 := Lib.hid ho2
            have HB2y := Lib.hid hq2
            clear ho2 hg2 hat2 hq2 hHeld
            refine hK.out _ _ ⟨(HB2y.out.cell hrl).trans k0, (HB2y.out.cell hrl).trans k1⟩ (fun hHeld => ?_)
            clear hK K
            conv => arg 8; simp only [Act.put, List.setIfInBounds_toArray, List.set_cons_zero, List.set_cons_succ]
            refine wpAnyH_ready (rs := [4]) (by kernel_rfl) (by simp) ?_
            refine AllReadyH.cons (o := ⟨some 73, _, _, _, _, _⟩) rfl (fun K hK => ?_) AllReadyH.nil
            go_simp
            generalize hW : World.alloc _ _ = y3
            have hb3 : Below y2.heap.size y2 y3 := by rw [← hW]; exact ((Below.refl _ _).alloc (Nat.le_refl _) _)
            have ho3 : y3.ownsRow w10.heap.size 43 2 (.slice (some ⟨y2.heap.size, 0, none⟩) 1 1) 1 (ihV [(s, u)]) := by rw [← hW]; exact (owns_base2 (ilit_own y2 s u) HB2y.out.size)
            have HX3 := Lib.hid ho3
            have HE3 := Lib.hid (owns_below HE2.out hb3)
            have HB3y := Lib.hid (HB2y.out.trans (hb3.mono HB2y.out.size))
            clear hW hb3 ho3 hHeld
            refine hK.out _ _ ⟨(HB3y.out.cell hrl).trans k0, (HB3y.out.cell hrl).trans k1⟩ (fun hHeld => ?_)
            clear hK K
            conv => arg 8; simp only [Act.put, List.setIfInBounds_toArray, List.set_cons_zero, List.set_cons_succ]
            refine wpAnyH_ready (rs := [5]) (by kernel_rfl) (by simp) ?_
            refine AllReadyH.cons (o := ⟨some 74, _, _, _, _, _⟩) rfl (fun K hK => ?_) AllReadyH.nil
            refine step_append_any _ (by rfl) (.tmp 71) (.tmp 73) _ (by rfl) w10.heap.size 43 i0 _ 2 16 Try.underlying50 HI0.out HZ0.out hz1 hz2 rfl (by omega) (.slice AA2 y cc2) y (ihV LI) (by rfl) HE3.out _ (some ⟨y2.heap.size, 0, none⟩) (1) 1 (ihV [(s, u)]) (by rfl) (Reads.of_own HX3.out) (ihV_oneCell _) (by unfold maxLen; omega) (by omega) HB3y.out.size ?_
            intro v4 y4 ho4 hg4 hat4
            rw [← ihV_append] at ho4
            obtain ⟨AA4, cc4, rfl⟩ := own_form ho4
            have hq4 : Below w10.heap.size w10 y4 := HB3y.out.grown hg4 HB3y.out.size (fun g e => (HE3.out.lt g e).1)
            have HE4 := Lib.hid ho4
            have HB4y := Lib.hid hq4
            clear ho4 hg4 hat4 hq4 hHeld
            refine hK.out _ _ ⟨(HB4y.out.cell hrl).trans k0, (HB4y.out.cell hrl).trans k1⟩ (fun hHeld => ?_)
            clear hK K
            conv => arg 8; simp only [Act.put, List.setIfInBounds_toArray, List.set_cons_zero, List.set_cons_succ]
            refine wpAnyH_take (i := 6) (oi := ⟨some 11, _, _, _, _, _⟩) (v := ?_) rfl (by kernel_rfl) (by kernel_rfl) (by kernel_rfl) (fun _ _ _ h => h) (Or.inl ⟨by kernel_rfl, ?_⟩) hHeld ?_
            rotate_left
            · intro w hSw
              obtain ⟨s0, s1⟩ := hSw
              go_simp
              all_goals (with_reducible rfl)
            conv => arg 8; simp only [Act.put, List.setIfInBounds_toArray, List.set_cons_zero, List.set_cons_succ]
            refine wpAnyH_done (by kernel_rfl) ?_ _
            refine NoPanic.normal ?_
            clear hHeld
            go_wp2_with fail
            go_meet
            refine ⟨LI ++ [(s, u)], ?_, ?_, HB10_.out.trans (HB4y.out.mono hz10)⟩
            · rw [List.length_append, HLL.out]
              exact owns_base2 HE4.out hz10
            · rw [List.length_append, HLL.out]
              show y + 1 ≤ 1001
              omega
          · go_simp
            generalize hW : World.alloc _ _ = y5
            have hb5 : Below y1.heap.size y1 y5 := by rw [← hW]; exact ((Below.refl _ _).alloc (Nat.le_refl _) _)
            have ho5 : y5.ownsRow w10.heap.size 43 2 (.slice (some ⟨y1.heap.size, 0, none⟩) 1 1) 1 (ihV [(s, u)]) := by rw [← hW]; exact (owns_base2 (ilit_own y1 s u) HB1y.out.size)
            have HX5 := Lib.hid ho5
            have HE5 := Lib.hid (owns_below HE1.out hb5)
            have hne5 : w10.heap.size ≠ y1.heap.size := Nat.ne_of_lt (HE1.out.lt _ rfl).2
            have HB5y := Lib.hid (HB1y.out.trans (hb5.mono HB1y.out.size))
            clear hW hb5 ho5 hHeld
            refine hK.out _ _ ⟨(HB5y.out.cell hrl).trans k0, (HB5y.out.cell hrl).trans k1⟩ (fun hHeld => ?_)
            clear hK K
            conv => arg 8; simp only [Act.put, List.setIfInBounds_toArray, List.set_cons_zero, List.set_cons_succ]
            refine wpAnyH_ready (rs := [2]) (by kernel_rfl) (by simp) ?_
            refine AllReadyH.cons (o := ⟨some 71, _, _, _, _, _⟩) rfl (fun K hK => ?_) AllReadyH.nil
            refine step_append_any _ (by rfl) (.tmp 69) (.tmp 70) _ (by rfl) w10.heap.size 43 i0 _ 2 16 Try.underlying50 HI0.out HZ0.out hz1 hz2 rfl (by omega) (.slice (some ⟨w10.heap.size, 0, none⟩) 0 0) 0 ([]) (by rfl) HE5.out _ A9 (y) c9 (ihV LI) (by rfl) (Reads.of_own (owns_below HO10.out HB5y.out)) (ihV_oneCell _) (by unfold maxLen; omega) (by omega) HB5y.out.size ?_
            intro v6 y6 ho6 hg6 hat6
            rw [Nat.zero_add, List.nil_append] at ho6
            obtain ⟨AA6, cc6, rfl⟩ := own_form ho6
            have hq6 : Below w10.heap.size w10 y6 := HB5y.out.grown hg6 HB5y.out.size (fun g e => (HE5.out.lt g e).1)
            have HE6 := Lib.hid ho6
            have HX6y := Lib.hid (owns_only HX5.out (Only.of_grown hg6) (fun g h1 h2 => by
              have e1 : y1.heap.size = g := Option.some.inj h1
              have e2 : w10.heap.size = g := Option.some.inj h2
              omega))
            have HB6y := Lib.hid hq6
            clear ho6 hg6 hat6 hq6 hHeld
            refine hK.out _ _ ⟨(HB6y.out.cell hrl).trans k0, (HB6y.out.cell hrl).trans k1⟩ (fun hHeld => ?_)
            clear hK K
            conv => arg 8; simp only [Act.put, List.setIfInBounds_toArray, List.set_cons_zero, List.set_cons_succ]
            refine wpAnyH_ready (rs := [5]) (by kernel_rfl) (by simp) ?_
            refine AllReadyH.cons (o := ⟨some 74, _, _, _, _, _⟩) rfl (fun K hK => ?_) AllReadyH.nil
            refine step_append_any _ (by rfl) (.tmp 71) (.tmp 73) _ (by rfl) w10.heap.size 43 i0 _ 2 16 Try.underlying50 HI0.out HZ0.out hz1 hz2 rfl (by omega) (.slice AA6 y cc6) y (ihV LI) (by rfl) HE6.out _ (some ⟨y1.heap.size, 0, none⟩) (1) 1 (ihV [(s, u)]) (by rfl) (Reads.of_own HX6y.out) (ihV_oneCell _) (by unfold maxLen; omega) (by omega) HB6y.out.size ?_
            intro v7 y7 ho7 hg7 hat7
            rw [← ihV_append] at ho7
            obtain ⟨AA7, cc7, rfl⟩ := own_form ho7
            have hq7 : Below w10.heap.size w10 y7 := HB6y.out.grown hg7 HB6y.out.size (fun g e => (HE6.out.lt g e).1)
            have HE7 := Lib.hid ho7
            have HB7y := Lib.hid hq7
            clear ho7 hg7 hat7 hq7 hHeld
            refine hK.out _ _ ⟨(HB7y.out.cell hrl).trans k0, (HB7y.out.cell hrl).trans k1⟩ (fun hHeld => ?_)
            clear hK K
            conv => arg 8; simp only [Act.put, List.setIfInBounds_toArray, List.set_cons_zero, List.set_cons_succ]
            refine wpAnyH_take (i := 6) (oi := ⟨some 11, _, _, _, _, _⟩) (v := ?_) rfl (by kernel_rfl) (by kernel_rfl) (by kernel_rfl) (fun _ _ _ h => h) (Or.inl ⟨by kernel_rfl, ?_⟩) hHeld ?_
            rotate_left
            · intro w hSw
              obtain ⟨s0, s1⟩ := hSw
              go_simp
              all_goals (with_reducible rfl)
            conv => arg 8; simp only [Act.put, List.setIfInBounds_toArray, List.set_cons_zero, List.set_cons_succ]
            refine wpAnyH_done (by kernel_rfl) ?_ _
            refine NoPanic.normal ?_
            clear hHeld
            go_wp2_with fail
            go_meet
            refine ⟨LI ++ [(s, u)], ?_, ?_, HB10_.out.trans (HB7y.out.mono hz10)⟩
            · rw [List.length_append, HLL.out]
              exact owns_base2 HE7.out hz10
            · rw [List.length_append, HLL.out]
              show y + 1 ≤ 1001
              omega
        · go_simp
          generalize hW : World.drew (World.alloc _ _) = y8
          have hb8 : Below w10.heap.size w10 y8 := by rw [← hW]; exact belowDrewR ((Below.refl _ _).alloc (Nat.le_refl _) _)
          have ho8 : y8.ownsRow w10.heap.size 43 2 (.slice (some ⟨w10.heap.size, 0, none⟩) 1 1) 1 (ihV [(s, u)]) := by rw [← hW]; exact (owns_base2 (ilit_own w10 s u) HBS.out.size).drew
          have HX8 := Lib.hid ho8
          have HB8y := Lib.hid (HBS.out.trans (hb8.mono HBS.out.size))
          clear hW hb8 ho8 hHeld
          refine hK.out _ _ ⟨(HB8y.out.cell hrl).trans k0, (HB8y.out.cell hrl).trans k1⟩ (fun hHeld => ?_)
          clear hK K
          conv => arg 8; simp only [Act.put, List.setIfInBounds_toArray, List.set_cons_zero, List.set_cons_succ]
          refine wpAnyH_ready (rs := [0]) (by kernel_rfl) (by simp) ?_
          refine AllReadyH.cons (o := ⟨some 69, _, _, _, _, _⟩) rfl (fun K hK => ?_) AllReadyH.nil
          go_simp
          generalize hW : World.alloc _ _ = y9
          have hb9 : Below y8.heap.size y8 y9 := by rw [← hW]; exact ((Below.refl _ _).alloc (Nat.le_refl _) _)
          have ho9 : y9.ownsRow w10.heap.size 43 2 (.slice (some ⟨y8.heap.size, 0, none⟩) 0 0) 0 [] := by rw [← hW]; exact (owns_base2 (hempty_own y8) HB8y.out.size)
          have HE9 := Lib.hid ho9
          have HX9 := Lib.hid (owns_below HX8.out hb9)
          have hne9 : w10.heap.size ≠ y8.heap.size := Nat.ne_of_lt (HX8.out.lt _ rfl).2
          have HB9y := Lib.hid (HB8y.out.trans (hb9.mono HB8y.out.size))
          clear hW hb9 ho9 hHeld
          refine hK.out _ _ ⟨(HB9y.out.cell hrl).trans k0, (HB9y.out.cell hrl).trans k1⟩ (fun hHeld => ?_)
          clear hK K
          conv => arg 8; simp only [Act.put, List.setIfInBounds_toArray, List.set_cons_zero, List.set_cons_succ]
          refine wpAnyH_ready (rs := [2]) (by kernel_rfl) (by simp) ?_
          refine AllReadyH.cons (o := ⟨some 71, _, _, _, _, _⟩) rfl (fun K hK => ?_) AllReadyH.nil
          refine step_append_any _ (by rfl) (.tmp 69) (.tmp 70) _ (by rfl) w10.heap.size 43 i0 _ 2 16 Try.underlying50 HI0.out HZ0.out hz1 hz2 rfl (by omega) (.slice (some ⟨y8.heap.size, 0, none⟩) 0 0) 0 ([]) (by rfl) HE9.out _ A9 (y) c9 (ihV LI) (by rfl) (Reads.of_own (owns_below HO10.out HB9y.out)) (ihV_oneCell _) (by unfold maxLen; omega) (by omega) HB9y.out.size ?_
          intro v10 y10 ho10 hg10 hat10
          rw [Nat.zero_add, List.nil_append] at ho10
          obtain ⟨AA10, cc10, rfl⟩ := own_form ho10
          have hq10 : Below w10.heap.size w10 y10 := HB9y.out.grown hg10 HB9y.out.size (fun g e => (HE9.out.lt g e).1)
          have HE10 := Lib.hid ho10
          have HX10y := Lib.hid (owns_only HX9.out (Only.of_grown hg10) (fun g h1 h2 => by
            have e1 : w10.heap.size = g := Option.some.inj h1
            have e2 : y8.heap.size = g := Option.some.inj h2
            omega))
          have HB10y := Lib.hid hq10
          clear ho10 hg10 hat10 hq10 hHeld
          refine hK.out _ _ ⟨(HB10y.out.cell hrl).trans k0, (HB10y.out.cell hrl).trans k1⟩ (fun hHeld => ?_)
          clear hK K
          conv => arg 8; simp only [Act.put, List.setIfInBounds_toArray, List.set_cons_zero, List.set_cons_succ]
          refine wpAnyH_ready (rs := [5]) (by kernel_rfl) (by simp) ?_
          refine AllReadyH.cons (o := ⟨some 74, _, _, _, _, _⟩) rfl (fun K hK => ?_) AllReadyH.nil
          refine step_append_any _ (by rfl) (.tmp 71) (.tmp 73) _ (by rfl) w10.heap.size 43 i0 _ 2 16 Try.underlying50 HI0.out HZ0.out hz1 hz2 rfl (by omega) (.slice AA10 y cc10) y (ihV LI) (by rfl) HE10.out _ (some ⟨w10.heap.size, 0, none⟩) (1) 1 (ihV [(s, u)]) (by rfl) (Reads.of_own HX10y.out) (ihV_oneCell _) (by unfold maxLen; omega) (by omega) HB10y.out.size ?_
          intro v11 y11 ho11 hg11 hat11
          rw [← ihV_append] at ho11
          obtain ⟨AA11, cc11, rfl⟩ := own_form ho11
          have hq11 : Below w10.heap.size w10 y11 := HB10y.out.grown hg11 HB10y.out.size (fun g e => (HE10.out.lt g e).1)
          have HE11 := Lib.hid ho11
          have HB11y := Lib.hid hq11
          clear ho11 hg11 hat11 hq11 hHeld
          refine hK.out _ _ ⟨(HB11y.out.cell hrl).trans k0, (HB11y.out.cell hrl).trans k1⟩ (fun hHeld => ?_)
          clear hK K
          conv => arg 8; simp only [Act.put, List.setIfInBounds_toArray, List.set_cons_zero, List.set_cons_succ]
          refine wpAnyH_take (i := 6) (oi := ⟨some 11, _, _, _, _, _⟩) (v := ?_) rfl (by kernel_rfl) (by kernel_rfl) (by kernel_rfl) (fun _ _ _ h => h) (Or.inl ⟨by kernel_rfl, ?_⟩) hHeld ?_
          rotate_left
          · intro w hSw
            obtain ⟨s0, s1⟩ := hSw
            go_simp
            all_goals (with_reducible rfl)
          conv => arg 8; simp only [Act.put, List.setIfInBounds_toArray, List.set_cons_zero, List.set_cons_succ]
          refine wpAnyH_done (by kernel_rfl) ?_ _
          refine NoPanic.normal ?_
          clear hHeld
          go_wp2_with fail
          go_meet
          refine ⟨LI ++ [(s, u)], ?_, ?_, HB10_.out.trans (HB11y.out.mono hz10)⟩
          · rw [List.length_append, HLL.out]
            exact owns_base2 HE11.out hz10
          · rw [List.length_append, HLL.out]
            show y + 1 ≤ 1001
            omega
      case rest =>
        obtain ⟨LA, hoA, hlA, hbA⟩ := hcut
        have HOA := Lib.hid hoA
        have HBA := Lib.hid hbA
        clear hoA hbA HO8n HO9 HO10 HBS k0 k1
        go_wp2_with fail
        go_loopw [11, 12] (fun all i wr => ∃ (LB : List Hi) (z : Nat), z ≤ 10 ∧ i = .int .i64 ((z : Int) - 1) ∧ LB.length ≤ 1001 + 3 * z ∧ wr.ownsRow w3.heap.size 43 2 all LB.length (ihV LB) ∧ Below w3.heap.size w3 wr) (fun _ i _ => 10 - (intOf i + 1).toNat)
        case atStart => exact ⟨LA, 0, by omega, rfl, by omega, HOA.out, HBA.out⟩
        case round =>
          obtain ⟨LB, z, hz, rfl, hlb, hob, hbb⟩ := hrel
          obtain ⟨lb, hlen⟩ : ∃ x, LB.length = x := ⟨_, rfl⟩
          rw [hlen] at hlb hob
          obtain ⟨AB, cB, hAB⟩ := own_form hob
          subst hAB
          have HOB := Lib.hid hob
          have HBB := Lib.hid hbb
          have HLB := Lib.hid hlen
          have hzb := hbb.size
          clear hob hbb hlen HOA HBA
          rcases Nat.lt_or_ge z 10 with hlt2 | hge2
          · have t1 : (z : Int) - 1 < 9 := by omega
            have g1 : IntKind.i64.wrap ((z : Int) - 1 + 1) = (z : Int) := by rw [IntWalk.i64_in _ (by omega)]; omega
            obtain ⟨zi, hzi⟩ : ∃ x : Int, (z : Int) - 1 = x := ⟨_, rfl⟩
            rw [hzi] at t1 g1 ⊢
            have HZI := Lib.hid hzi
            have HRW : Hid ((wr.alloc (.cells #[.int .i64 zi, .int .i64 0, .int .i64 zi, .int .i64 1, .int .i64 zi, .int .i64 (-1)] 43)).ownsRow w3.heap.size 43 2 (.slice AB lb cB) lb (ihV LB)) := Lib.hid (owns_below HOB.out ((Below.refl _ _).alloc (Nat.le_refl _) _))
            have HRX := Lib.hid (i3_reads wr (zi, 0) (zi, 1) (zi, -1))
            clear hzi
            go_wp2_with (first
              | (refine wpList_buildSlice rfl 50 43 3 _ rfl #[.int .i64 zi, .int .i64 0, .int .i64 zi, .int .i64 1, .int .i64 zi, .int .i64 (-1)] i0 _ Try.underlying50 HI0.out HZ0.out (by rw [hz1]; omega) (by rw [hz1]; omega) (by simp only [List.map_toArray, List.map_cons, List.map_nil]; exact i3_fill _ _ _ _ _ _ i0 hz1) ?_)
              | (at_builtin
                 refine wpList_append_any _ rfl (.tmp 79) (.tmp 86) _ rfl w3.heap.size 43 i0 _ 2 16 Try.underlying50 HI0.out HZ0.out hz1 hz2 rfl (by omega) (.slice AB lb cB) lb _ (by rfl)
                   HRW.out _ _ 3 3 _ (by rfl) HRX.out (ihV_oneCell _) (by unfold maxLen; omega) (by omega) (by rw [World.size_alloc]; omega) ?_
                 intro v8 w12 hr8 hg8 hat8
                 rw [← ihV_append] at hr8
                 have hq8 := (HBB.out.trans (((Below.refl wr.heap.size wr).alloc (Nat.le_refl _) (.cells #[.int .i64 zi, .int .i64 0, .int .i64 zi, .int .i64 1, .int .i64 zi, .int .i64 (-1)] 43)).mono hzb)).grown hg8 (by rw [World.size_alloc]; omega) (fun g e => (HRW.out.lt g e).1)
                 have HB12 := Lib.hid hq8
                 have HO12 := Lib.hid hr8
                 clear hr8 hg8 hat8 hq8))
            go_roundw
            case rel => exact ⟨LB ++ [(zi, 0), (zi, 1), (zi, -1)], z + 1, by omega, by have := HZI.out; congr 1; omega, by rw [List.length_append, HLB.out]; show lb + 3 ≤ _; omega, by rw [List.length_append, HLB.out]; exact HO12.out, HB12.out⟩
            case measure => have := HZI.out; simp [intOf]; omega
          · obtain rfl : z = 10 := by omega
            have t1 : ¬ ((10 : Nat) : Int) - 1 < 9 := by omega
            go_wp2_with fail
            go_loopw [90] (fun i wy => ∃ y : Nat, y ≤ lb ∧ i = .int .i64 (y : Int) ∧ Below wr.heap.size wr wy) (fun i _ => lb - (intOf i).toNat)
            case atStart => exact ⟨0, by omega, rfl, Below.refl _ _⟩
            case round =>
              obtain ⟨y2, hy2, rfl, hby⟩ := hrel
              have HOY := Lib.hid (owns_below HOB.out hby)
              have HBY2 := Lib.hid (HBB.out.trans (hby.mono hzb))
              have HBY3 := Lib.hid hby
              clear hby
              rcases Nat.lt_or_ge y2 lb with hlt3 | hge3
              · have t2 : (y2 : Int) < (lb : Int) := by omega
                have t3 : (0 : Int) ≤ y2 := by omega
                obtain ⟨x, hx⟩ : ∃ x, LB[y2]? = some x := ⟨_, List.getElem?_eq_getElem (by rw [HLB.out]; exact hlt3)⟩
                have h8 := HOY.out
                rw [← HLB.out] at h8
                obtain ⟨g8, hA8, k0, k1, hg8l⟩ := ihs_cell h8 hx
                subst hA8
                obtain ⟨xa, hxa⟩ : ∃ z : Int, x.1 = z := ⟨_, rfl⟩
                obtain ⟨xb, hxb⟩ : ∃ z : Int, x.2 = z := ⟨_, rfl⟩
                rw [hxa] at k0
                rw [hxb] at k1
                have hsy := HST.out.below HBY2.out
                have HSY : Hid (RdSt w3 B C g6 gr m pv fv L k s u wr) := hsy
                have hzy := HBY2.out.size
                clear h8 hx hxa hxb hsy
                go_upto_region 23 with (fail)
                generalize hwb : World.alloc _ _ = w12
                have hb12 : Below wr.heap.size wr w12 := by rw [← hwb]; exact (Below.refl _ _).alloc (Nat.le_refl _) _
                have hh12 : Blk w12 wr.heap.size 43 #[.int .i64 xa, .int .i64 xb] := by rw [← hwb]; exact heap_alloc_new _ _
                have HS12 := Lib.hid (HSY.out.below hb12)
                have HH12 := Lib.hid hh12
                have HB12 := Lib.hid (HBY3.out.trans (hb12.mono HBY3.out.size))
                have k2 : w12.cell? ⟨wr.heap.size, 0, none⟩ = some (.int .i64 xa) := hh12.cell 0
                have k3 : w12.cell? ⟨wr.heap.size, 1, none⟩ = some (.int .i64 xb) := hh12.cell 1
                clear hwb hb12 hh12 k0 k1 HSY
                cases hok : m.ok xa xb with
                | false =>
                  have hsm1 : ent0.rn ≤ 16 := Nat.zero_le _
                  have hsm2 : ent0.peers.length ≤ 16 := Nat.zero_le _
                  have HOK := Lib.hid hok
                  clear hok
                  go_wp2_with fail
                  refine (rget_no w12 B C m k HS12.out.slb HS12.out.wf (by omega) xa xb HOK.out).mono ?_
                  rintro e w13 ⟨rfl, hb13⟩
                  have hea : EntAt w13 w12.heap.size ent0 (.slice none 0 0) (.slice none 0 0) := ent0_at _ _
                  have qs := box_sto w13 ent0 (.slice none 0 0) (.slice none 0 0) hea.one
                  have HS13 := Lib.hid (HS12.out.below hb13)
                  have HH13 := Lib.hid (HH12.out.below hb13 HH12.out.lt)
                  have HB13 := Lib.hid (HB12.out.trans (hb13.mono HB12.out.size))
                  have HE13 := Lib.hid hea
                  clear hb13 hea k2 k3 HS12 HH12
                  go_upto_region 24 with (fail)
                  generalize hwb : storeMid _ _ _ = w14
                  have hbx := box_end hwb
                  obtain ⟨ga, hga⟩ : ∃ g, w13.heap.size = g := ⟨_, rfl⟩
                  have HS14 := Lib.hid (HS13.out.below hbx.1)
                  have HH14 := Lib.hid (HH13.out.below hbx.1 HH13.out.lt)
                  have HB14 := Lib.hid (HB13.out.trans (hbx.1.mono HB13.out.size))
                  have HE14 := Lib.hid (HE13.out.below hbx.1)
                  have HA14 := Lib.hid hbx.2
                  rw [hga] at HA14 ⊢
                  have hbv := HS14.out.box
                  rw [HPV.out.1, HPV.out.2.1, HPV.out.2.2] at hbv
                  have y0 : w14.cell? ⟨g6, 0, none⟩ = some (.int .i64 (most : Int)) := hbv.cell 0
                  have y1 : w14.cell? ⟨g6, 1, none⟩ = some (.slice Ap pn cp) := hbv.cell 1
                  have y2' : w14.cell? ⟨g6, 2, none⟩ = some (.slice Af fn cf) := hbv.cell 2
                  have k2 := HH14.out.cell 0
                  have k3 := HH14.out.cell 1
                  simp at k2 k3
                  clear qs hwb hbx hga hbv HS13 HH13 HE13
                  have HGE : Hid (Calls Try.prog 25 #[.agg #[.int .i64 (most : Int), .slice Ap pn cp, .slice Af fn cf], .agg #[.int .i64 xa, .int .i64 xb]] w14 fun e w' => e = .returned (.tuple #[entV ent0 (.slice none 0 0) (.slice none 0 0), .bool false]) ∧ Below w14.heap.size w14 w') := by
                    have h1 := rgetr_no w14 B pv fv m L k HS14.out.ref HS14.out.wf (by omega) xa xb HOK.out
                    rw [HSV.out] at h1
                    exact h1
                  go_wp2_with fail
                  refine HGE.out.mono ?_
                  rintro e w15 ⟨rfl, hb15⟩
                  have heb : EntAt w15 B ent0 (.slice none 0 0) (.slice none 0 0) := ent0_at _ _
                  have qs := box_sto w15 ent0 (.slice none 0 0) (.slice none 0 0) heb.one
                  have HA15 := Lib.hid (HA14.out.below hb15 HA14.out.lt)
                  have HE15 := Lib.hid (HE14.out.below hb15)
                  have HB15 := Lib.hid (HB14.out.trans (hb15.mono HB14.out.size))
                  have HF15 := Lib.hid heb
                  clear hb15 heb y0 y1 y2' k2 k3 HGE
                  go_upto_region 25 with (fail)
                  generalize hwb : storeMid _ _ _ = w16
                  have hbx := box_end hwb
                  obtain ⟨gc, hgc⟩ : ∃ g, w15.heap.size = g := ⟨_, rfl⟩
                  have HA16 := Lib.hid (HA15.out.below hbx.1 HA15.out.lt)
                  have HE16 := Lib.hid (HE15.out.below hbx.1)
                  have HF16 := Lib.hid (HF15.out.below hbx.1)
                  have HB16 := Lib.hid (HB15.out.trans (hbx.1.mono HB15.out.size))
                  have HC16 := Lib.hid hbx.2
                  rw [hgc] at HC16 ⊢
                  have qa1 : AggOk 41 w16 (.pointer (some ⟨ga, 0, none⟩)) := aggOk_mk (blk_rangeN HA16.out) (entCells_len _ _ _)
                  have ld1 := loadN_eq (n := 41) (blk_rangeN HA16.out) (entCells_len _ _ _)
                  have qa2 : AggOk 41 w16 (.pointer (some ⟨gc, 0, none⟩)) := aggOk_mk (blk_rangeN HC16.out) (entCells_len _ _ _)
                  have ld2 := loadN_eq (n := 41) (blk_rangeN HC16.out) (entCells_len _ _ _)
                  clear qs hwb hbx hgc
                  go_wp2_with fail
                  refine (sameEntry_any w16 ent0 (.slice none 0 0) (.slice none 0 0) (.slice none 0 0) (.slice none 0 0) HE16.out.rd HF16.out.rd (by omega) (by omega)).mono ?_
                  rintro e w17 ⟨rfl, hb17⟩
                  have HB17 := Lib.hid (HB16.out.trans (hb17.mono HB16.out.size))
                  clear hb17 qa1 ld1 qa2 ld2
                  go_wp2_with fail
                  go_roundw
                  case rel => exact ⟨y2 + 1, by omega, by go_num, HB17.out⟩
                  case measure => simp [intOf]; omega
                | true =>
                  obtain ⟨i9, p, hsi, hp, hpf, hpu⟩ := RSt.ok_some hok
                  have HGP : Hid (Calls Try.prog 15 #[.pointer (some ⟨C, 0, none⟩), .agg #[.int .i64 xa, .int .i64 xb]] w12 (GetPost w12 p.e)) := by
                    have h1 := rget_ok w12 B C m k HS12.out.slb HS12.out.wf (by omega) i9 xb p hp hpf hpu
                    rw [← hsi] at h1
                    exact h1
                  have hsm := HS12.out.wf.ents p (List.mem_of_getElem? hp)
                  have hsm1 : p.e.rn ≤ 16 := hsm.1
                  have hsm2 : p.e.peers.length ≤ 16 := hsm.2
                  have HP := Lib.hid (And.intro hsi (And.intro hp (And.intro hpf hpu)))
                  clear hsi hp hpf hpu hok hsm
                  go_wp2_with fail
                  refine HGP.out.mono ?_
                  rintro e w13 ⟨ra, pa, rfl, hb13, hea⟩
                  have qs := box_sto w13 p.e ra pa hea.one
                  have HS13 := Lib.hid (HS12.out.below hb13)
                  have HH13 := Lib.hid (HH12.out.below hb13 HH12.out.lt)
                  have HB13 := Lib.hid (HB12.out.trans (hb13.mono HB12.out.size))
                  have HE13 := Lib.hid hea
                  clear hb13 hea k2 k3 HS12 HH12
                  go_upto_region 24 with (fail)
                  generalize hwb : storeMid _ _ _ = w14
                  have hbx := box_end hwb
                  obtain ⟨ga, hga⟩ : ∃ g, w13.heap.size = g := ⟨_, rfl⟩
                  have HS14 := Lib.hid (HS13.out.below hbx.1)
                  have HH14 := Lib.hid (HH13.out.below hbx.1 HH13.out.lt)
                  have HB14 := Lib.hid (HB13.out.trans (hbx.1.mono HB13.out.size))
                  have HE14 := Lib.hid (HE13.out.below hbx.1)
                  have HA14 := Lib.hid hbx.2
                  rw [hga] at HA14 ⊢
                  have hbv := HS14.out.box
                  rw [HPV.out.1, HPV.out.2.1, HPV.out.2.2] at hbv
                  have y0 : w14.cell? ⟨g6, 0, none⟩ = some (.int .i64 (most : Int)) := hbv.cell 0
                  have y1 : w14.cell? ⟨g6, 1, none⟩ = some (.slice Ap pn cp) := hbv.cell 1
                  have y2' : w14.cell? ⟨g6, 2, none⟩ = some (.slice Af fn cf) := hbv.cell 2
                  have k2 := HH14.out.cell 0
                  have k3 := HH14.out.cell 1
                  simp at k2 k3
                  clear qs hwb hbx hga hbv HS13 HH13 HE13
                  have HGE : Hid (Calls Try.prog 25 #[.agg #[.int .i64 (most : Int), .slice Ap pn cp, .slice Af fn cf], .agg #[.int .i64 xa, .int .i64 xb]] w14 (GetRPost w14 B p.e)) := by
                    have h1 := rgetr_ok w14 B pv fv m L k HS14.out.ref HS14.out.wf (by omega) i9 xb p HP.out.2.1 HP.out.2.2.1 HP.out.2.2.2
                    rw [HSV.out, ← HP.out.1] at h1
                    exact h1
                  go_wp2_with fail
                  refine HGE.out.mono ?_
                  rintro e w15 ⟨rb, pb, rfl, hb15, heb⟩
                  have qs := box_sto w15 p.e rb pb heb.one
                  have HA15 := Lib.hid (HA14.out.below hb15 HA14.out.lt)
                  have HE15 := Lib.hid (HE14.out.below hb15)
                  have HB15 := Lib.hid (HB14.out.trans (hb15.mono HB14.out.size))
                  have HF15 := Lib.hid heb
                  clear hb15 heb y0 y1 y2' k2 k3 HGE
                  go_upto_region 25 with (fail)
                  generalize hwb : storeMid _ _ _ = w16
                  have hbx := box_end hwb
                  obtain ⟨gc, hgc⟩ : ∃ g, w15.heap.size = g := ⟨_, rfl⟩
                  have HA16 := Lib.hid (HA15.out.below hbx.1 HA15.out.lt)
                  have HE16 := Lib.hid (HE15.out.below hbx.1)
                  have HF16 := Lib.hid (HF15.out.below hbx.1)
                  have HB16 := Lib.hid (HB15.out.trans (hbx.1.mono HB15.out.size))
                  have HC16 := Lib.hid hbx.2
                  rw [hgc] at HC16 ⊢
                  have qa1 : AggOk 41 w16 (.pointer (some ⟨ga, 0, none⟩)) := aggOk_mk (blk_rangeN HA16.out) (entCells_len _ _ _)
                  have ld1 := loadN_eq (n := 41) (blk_rangeN HA16.out) (entCells_len _ _ _)
                  have qa2 : AggOk 41 w16 (.pointer (some ⟨gc, 0, none⟩)) := aggOk_mk (blk_rangeN HC16.out) (entCells_len _ _ _)
                  have ld2 := loadN_eq (n := 41) (blk_rangeN HC16.out) (entCells_len _ _ _)
                  clear qs hwb hbx hgc
                  go_wp2_with fail
                  refine (sameEntry_any w16 p.e ra pa rb pb HE16.out.rd HF16.out.rd (by omega) (by omega)).mono ?_
                  rintro e w17 ⟨rfl, hb17⟩
                  have HB17 := Lib.hid (HB16.out.trans (hb17.mono HB16.out.size))
                  clear hb17 qa1 ld1 qa2 ld2
                  go_wp2_with fail
                  go_roundw
                  case rel => exact ⟨y2 + 1, by omega, by go_num, HB17.out⟩
                  case measure => simp [intOf]; omega
              · obtain rfl : lb = y2 := by omega
                have t2 : ¬ (lb : Int) < (lb : Int) := by omega
                go_wp2_with fail
                refine (known_any _).mono ?_
                rintro e w13 ⟨rfl, hb13⟩
                have HB13 := Lib.hid ((HB3.out.trans (HBY2.out.mono HB3.out.size)).trans (hb13.mono (Nat.le_trans HB3.out.size HBY2.out.size)))
                clear hb13
                go_wp2_with fail
                go_ret
                exact ⟨rfl, HB13.out⟩
end Go.Proofs.Ytnihkjhejjeepaa
