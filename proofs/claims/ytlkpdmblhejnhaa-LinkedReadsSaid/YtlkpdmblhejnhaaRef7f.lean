/- The reference's list: MoveToBack. -/
import Derived.Test.YtlkpdmblhejnhaaRef7e
namespace Go.Proofs.Ytlkpdmblhejnhaa
open Go.RowKit
set_option linter.unusedVariables false
open Lnk

theorem reads_of_blk2 {W : World} {N : Nat} {t : TypeId} {u v : Value} (h : Blk W N t #[u, v]) : Reads W W.heap.size 2 (some ⟨N, 0, none⟩) 1 [u, v] := by
  refine ⟨rfl, fun _ => ⟨_, rfl, h.lt, fun j x hj => ?_⟩⟩
  rw [add_flat, Nat.zero_add, h.cell]
  simpa using hj

set_option maxHeartbeats 1000000 in
theorem rmove_no (w : World) (B : Nat) (ev fv : Value) (r : R) (s : Int) (h : RefAt w B ev fv r) (hm : r.E.length ≤ 1048576) (hp : placeR r.E s = none) :
    Calls Try.prog 33 #[refV ev fv r, .int .i64 s] w (RefPost w B r (.bool false)) := by
  have H := Lib.hid h
  have hP := fun W hW => rplace_any W B ev fv r s (h.below hW) hm
  simp only [hp] at hP
  have HP := Lib.hid hP
  clear h hP hp
  have t1 : oi none < 0 := by decide
  unfold refV
  go_enter Try.func33, Try.ntmps33
  go_wp2_with fail
  generalize hwa : World.alloc (World.alloc w _) _ = wa
  have hb0 : Below w.heap.size w wa := by rw [← hwa]; exact ((Below.refl _ _).alloc (Nat.le_refl _) _).alloc (by simp) _
  have hk0 : Blk wa w.heap.size 28 #[ev, fv, .int .i64 (r.U : Int)] := by rw [← hwa]; exact (Blk.new w _ _).alloc _
  have hk1 : Blk wa (w.heap.size + 1) 28 #[.slice none 0 0, .slice none 0 0, .int .i64 0] := by rw [← hwa]; exact heap_alloc_at _ _ _ (by simp)
  clear hwa
  refine (HP.out wa hb0).mono ?_
  rintro e w1 ⟨rfl, hb1⟩
  have g0 := hk0.below hb1 hk0.lt
  have g1 := hk1.below hb1 hk1.lt
  obtain ⟨a1, c1, rfl⟩ := owns_form H.out.el
  obtain ⟨a2, c2, rfl⟩ := owns_form H.out.fr
  have k0 := g0.cell 0
  have k1 := g0.cell 1
  have k2 := g0.cell 2
  have z0 := g1.cell 0
  have z1 := g1.cell 1
  have z2 := g1.cell 2
  simp at k0 k1 k2 z0 z1 z2
  have y0 := g1.frozen 0
  have y1 := g1.frozen 1
  have y2 := g1.frozen 2
  have HBB := Lib.hid (hb0.trans (hb1.mono hb0.size))
  have HG := Lib.hid g1
  clear hb0 hb1 g0 g1 hk0 hk1
  go_wp2
  have hs := set3_only w1 (w.heap.size + 1) (.slice a1 r.E.length c1) (.slice a2 r.F.length c2) (.int .i64 (r.U : Int))
  have hb := hs.below_trans HBB.out HBB.out.size (fun k hk => by omega)
  exact bodyPost_ret (results_cell_one rfl _ _ (w.heap.size + 1) _ _ (0, 0) _ rfl (set3_blk HG.out _ _ _) Try.underlying28 rfl (by kernel_rfl)) rfl ⟨_, _, rfl, hb, H.out.below hb⟩

set_option maxHeartbeats 40000000 in
theorem rmove_yes (w : World) (B : Nat) (ev fv : Value) (r : R) (i : Nat) (x : Nat × Int) (h : RefAt w B ev fv r) (hB : B ≤ w.heap.size) (hm : r.E.length ≤ 1048576) (hx : r.E[i]? = some x) (hp : placeR r.E (x.1 : Int) = some i) :
    Calls Try.prog 33 #[refV ev fv r, .int .i64 (x.1 : Int)] w (RefPost w B (moveR r i x) (.bool true)) := by
  obtain ⟨i0, hi0, hz0, hz1, hz2⟩ := info_parts elem_info
  have hil : i < r.E.length := by
    rcases Nat.lt_or_ge i r.E.length with h1 | h1
    · exact h1
    · rw [List.getElem?_eq_none h1] at hx; cases hx
  obtain ⟨s, xv⟩ := x
  have H := Lib.hid h
  have hP := fun W hW => rplace_any W B ev fv r (s : Int) (h.below hW) hm
  simp only [hp] at hP
  have HP := Lib.hid hP
  have HX := Lib.hid hx
  obtain ⟨a1, g, c1, rfl, hA, hcap, hcells⟩ := elem_cells h
  obtain ⟨rfl, hg⟩ := hA (by omega)
  obtain ⟨a2, c2, rfl⟩ := owns_form h.fr
  obtain ⟨d1, d2⟩ := hcells i _ hx
  clear h hP hp hx hA hcells
  have hil' : (i : Int) < r.E.length := by omega
  have t1 : ¬ ((i : Int) < 0) := by omega
  unfold refV
  go_enter Try.func33, Try.ntmps33
  go_wp2_with fail
  generalize hwa : World.alloc (World.alloc w _) _ = wa
  have hb0 : Below w.heap.size w wa := by rw [← hwa]; exact ((Below.refl _ _).alloc (Nat.le_refl _) _).alloc (by simp) _
  have hk0 : Blk wa w.heap.size 28 #[.slice (some ⟨g, 0, none⟩) r.E.length c1, .slice a2 r.F.length c2, .int .i64 (r.U : Int)] := by rw [← hwa]; exact (Blk.new w _ _).alloc _
  have hk1 : Blk wa (w.heap.size + 1) 28 #[.slice none 0 0, .slice none 0 0, .int .i64 0] := by rw [← hwa]; exact heap_alloc_at _ _ _ (by simp)
  clear hwa
  refine (HP.out wa hb0).mono ?_
  rintro e w1 ⟨rfl, hb1⟩
  rw [show oi (some i) = (i : Int) from rfl]
  have g0 := hk0.below hb1 hk0.lt
  have g1 := hk1.below hb1 hk1.lt
  have k0 := g0.cell 0
  have k1 := g0.cell 1
  have k2 := g0.cell 2
  simp at k0 k1 k2
  have hbb := hb0.trans (hb1.mono hb0.size)
  have HBB := Lib.hid hbb
  have HG := Lib.hid g1
  have HG0 := Lib.hid g0
  have hn1 := g1.lt
  have hn0 : w.heap.size < w1.heap.size := by omega
  clear hb0 hb1 hk0 hk1
  go_wp2_with fail
  have HEV : Hid (∀ W, Below w1.heap.size w1 W → W.ownsRow B 47 2 (.slice (some ⟨g, 0, none⟩) r.E.length c1) r.E.length (elemsOf r.E)) := fun W hW => ((H.out.below hbb).below hW).el
  have HFV : Hid (∀ W, Below w1.heap.size w1 W → W.ownsRow B 3 1 (.slice a2 r.F.length c2) r.F.length (freesOf r.F)) := fun W hW => ((H.out.below hbb).below hW).fr
  have d1 := (hbb.cell (p := ⟨g, i * 2, none⟩) hg).trans d1
  have d2 := (hbb.cell (p := ⟨g, i * 2 + 1, none⟩) hg).trans d2
  have hgn : g < w1.heap.size := Nat.lt_of_lt_of_le hg hbb.size
  have hgn1 : g ≠ w.heap.size + 1 := by omega
  have hgn2 : w.heap.size + 1 ≠ g := by omega
  have hwl := length_without r.E i hil
  have hwl2 : (without r.E i).length ≤ 1048576 := by omega
  have HWL := Lib.hid hwl
  have HBC := Lib.hid (Below.refl w1.heap.size w1)
  clear g0 g1 hbb hwl
  go_region_held3 (fun w' => w'.cell? ⟨w.heap.size, 0, none⟩ = some (.slice (some ⟨g, 0, none⟩) r.E.length c1) ∧ w'.cell? ⟨w.heap.size, 1, none⟩ = some (.slice a2 r.F.length c2) ∧ w'.cell? ⟨w.heap.size, 2, none⟩ = some (.int .i64 (r.U : Int)) ∧ w'.cell? ⟨g, i * 2, none⟩ = some (.int .i64 (s : Int)) ∧ w'.cell? ⟨g, i * 2 + 1, none⟩ = some (.int .i64 xv))
    (first | go_keep | exact ⟨(HBC.out.cell (p := ⟨w.heap.size, 0, none⟩) hn0).trans k0, (HBC.out.cell (p := ⟨w.heap.size, 1, none⟩) hn0).trans k1, (HBC.out.cell (p := ⟨w.heap.size, 2, none⟩) hn0).trans k2, (HBC.out.cell (p := ⟨g, i * 2, none⟩) hgn).trans d1, (HBC.out.cell (p := ⟨g, i * 2 + 1, none⟩) hgn).trans d2⟩ | (dsimp only; (repeat' apply And.intro) <;> go_keep))
    (first
      | (refine step_append_own _ rfl (.tmp 16) (.tmp 22) _ rfl w1.heap.size 47 i0 _ 2 16 Try.underlying26 hi0 hz0 hz1 hz2 rfl (by omega) (.slice aW (without r.E i).length cW) (without r.E i).length (elemsOf (without r.E i)) (by rfl) ?_ _ _ 1 1 [.int .i64 (s : Int), .int .i64 xv] (by rfl) (reads_of_blk2 (t := 47) ?_) (by intro u hu; simp at hu; rcases hu with rfl | rfl <;> rfl) (by unfold maxLen; omega) (by omega) ?_ ?_
         · repeat (first | (with_reducible exact HWO.out) | (with_reducible refine World.ownsRow.drew ?_) | (with_reducible refine World.ownsRow.alloc ?_ _))
         · repeat (first | (with_reducible exact blk_at _ _ _ _ (by simp; done)) | (with_reducible refine Blk.alloc ?_ _) | (with_reducible refine Blk.drew ?_) | (with_reducible refine HOLDW.out _ _ _ ?_))
         · have := HBC.out.size; simp; omega
         intro v4 w4 hown4 ho4 hg4 hat4
         obtain ⟨a4, c4, rfl⟩ := owns_form ho4
         have hBEL : Below w1.heap.size w1 _ := below_own (a := w1) (by repeat (first | (with_reducible exact HBC.out) | (with_reducible refine belowDrew2 ?_) | (with_reducible refine below_al ?_ _))) hown4 hg4
         have HI2 := Lib.hid ho4
         have HBC := Lib.hid hBEL
         have hk9 := HG.out.below HBC.out hn1; have z0 := hk9.cell 0; have z1 := hk9.cell 1; have z2 := hk9.cell 2; have y0 := hk9.frozen 0; have y1 := hk9.frozen 1; have y2 := hk9.frozen 2; simp at z0 z1 z2; have HK9 := Lib.hid hk9; have hsz9 := HBC.out.size; clear hk9
         clear hown4 ho4 hg4 hat4 hBEL)
      | (go_simp; go_at_call 39; refine (rwithout_any _ B g c1 r.E i (HEV.out _ ?_) hil hm hcap).mono ?_
         · repeat (first | (with_reducible exact HBC.out) | (with_reducible refine belowDrew2 ?_) | (with_reducible refine below_al ?_ _))
         rintro e wW ⟨aW, cW, rfl, hbW, hoW⟩
         have hBEL : Below w1.heap.size w1 _ := below_step (a := w1) (by repeat (first | (with_reducible exact HBC.out) | (with_reducible refine belowDrew2 ?_) | (with_reducible refine below_al ?_ _))) hbW
         have hleW := below_le (a := w1) (by repeat (first | (with_reducible exact HBC.out) | (with_reducible refine belowDrew2 ?_) | (with_reducible refine below_al ?_ _))) hbW
         have HWO : Hid (wW.ownsRow w1.heap.size 47 2 (.slice aW (without r.E i).length cW) (without r.E i).length (elemsOf (without r.E i))) := owns_base hoW hleW
         have HOLDW := Lib.hid (hold_below hbW)
         have hszW := hbW.size
         (try simp at hszW)
         have HBC := Lib.hid hBEL
         have hk9 := HG.out.below HBC.out hn1; have z0 := hk9.cell 0; have z1 := hk9.cell 1; have z2 := hk9.cell 2; have y0 := hk9.frozen 0; have y1 := hk9.frozen 1; have y2 := hk9.frozen 2; simp at z0 z1 z2; have HK9 := Lib.hid hk9; have hsz9 := HBC.out.size; clear hk9
         clear hbW hoW hleW hBEL))
  all_goals
    go_wp2
    have hBw : B ≤ w1.heap.size := by omega
    have hb9 := HBB.out.trans (HBC.out.mono HBB.out.size)
    have hE9 : (moveR r i (s, xv)).E.length = (without r.E i).length + 1 := by show (without r.E i ++ [(s, xv)]).length = _; simp
    have hE8 : elemsOf (moveR r i (s, xv)).E = elemsOf (without r.E i) ++ [.int .i64 (s : Int), .int .i64 xv] := by show elemsOf (without r.E i ++ [(s, xv)]) = _; rw [elems_append]; rfl
    have hfin := ref_fin (B := B) (r' := moveR r i (s, xv)) (ev := .slice a4 ((without r.E i).length + 1) c4) (fv := .slice a2 r.F.length c2) (g := w.heap.size + 1) hB (by omega) hb9 HK9.out (by rw [hE9, hE8]; exact owns_base HI2.out hBw) (HFV.out _ HBC.out)
    exact bodyPost_ret (results_cell_one rfl _ _ (w.heap.size + 1) _ _ (0, 0) _ rfl (set3_blk HK9.out _ _ _) Try.underlying28 rfl (by kernel_rfl)) rfl ⟨_, _, rfl, hfin.1, hfin.2⟩
end Go.Proofs.Ytlkpdmblhejnhaa
