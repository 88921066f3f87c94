/- The reference's list: Remove, MoveToBack. -/
import Derived.Test.YtlkpdmblhejnhaaRef7d
namespace Go.Proofs.Ytlkpdmblhejnhaa
open Go.RowKit
set_option linter.unusedVariables false
open Lnk

theorem set3_zero {w : World} {g : Nat} (a b c : Value) : (set3 w g a b c).heap.size = w.heap.size := set3_size w g a b c

theorem ref_fin {w wL : World} {B g : Nat} {ev fv x y z : Value} {r' : R} (hB : B ≤ w.heap.size) (hg : w.heap.size ≤ g) (hb : Below w.heap.size w wL) (hk : Blk wL g 28 #[x, y, z])
    (he : wL.ownsRow B 47 2 ev r'.E.length (elemsOf r'.E)) (hf : wL.ownsRow B 3 1 fv r'.F.length (freesOf r'.F)) :
    Below w.heap.size w (set3 wL g ev fv (.int .i64 (r'.U : Int))) ∧ RefAt (set3 wL g ev fv (.int .i64 (r'.U : Int))) B ev fv r' := by
  have hs := set3_only wL g ev fv (.int .i64 (r'.U : Int))
  exact ⟨hs.below_trans hb hb.size (fun k hk => by omega), (RefAt.mk he hf).box hk hs⟩
theorem blk_at (w : World) (t : TypeId) (cs : Array Value) (n : Nat) (h : n = w.heap.size) : Blk (w.alloc (.cells cs t)) n t cs := by subst h; exact heap_alloc_new w _
theorem below_al {a W : World} (h : Below a.heap.size a W) (o : Obj) : Below a.heap.size a (W.alloc o) := h.alloc h.size o
theorem below_step {a W w' : World} (h : Below a.heap.size a W) (h' : Below W.heap.size W w') : Below a.heap.size a w' := h.trans (h'.mono h.size)
theorem below_le {a W w' : World} (h : Below a.heap.size a W) (h' : Below W.heap.size W w') : a.heap.size ≤ W.heap.size := h.size
theorem below_own {a W w' : World} {e : TypeId} {size n : Nat} {v : Value} {xs : List Value} (h : Below a.heap.size a W) (ho : W.ownsRow a.heap.size e size v n xs) (hg : W.grownBy w' v.ownBlock) : Below a.heap.size a w' :=
  h.grown hg h.size (fun g e => (ho.lt g e).1)
theorem hold_below {W w' : World} (h : Below W.heap.size W w') : ∀ k t cs, Blk W k t cs → Blk w' k t cs := fun k t cs hb => hb.below h hb.lt
theorem hold_grown {W w' : World} {row : Option Nat} (h : W.grownBy w' row) : ∀ k t cs, some k ≠ row → Blk W k t cs → Blk w' k t cs := fun k t cs hne hb => hb.grown h hne
theorem own_of_blk {W : World} {N base : Nat} {t : TypeId} {size : Nat} (h : Blk W N t #[]) (hb : base ≤ N) : W.ownsRow base t size (.slice (some ⟨N, 0, none⟩) 0 0) 0 [] :=
  ⟨by simp, .inr ⟨N, 0, #[], rfl, hb, h, Nat.le_refl _, by unfold maxLen; omega, by simp, by simp⟩⟩
theorem reads_of_blk {W : World} {N : Nat} {t : TypeId} {u : Value} (h : Blk W N t #[u]) : Reads W W.heap.size 1 (some ⟨N, 0, none⟩) 1 [u] := by
  refine ⟨rfl, fun _ => ⟨_, rfl, h.lt, fun j x hj => ?_⟩⟩
  rw [add_flat, Nat.zero_add, h.cell]
  simpa using hj
theorem owns_below2 {w w' : World} {base : Nat} {e : TypeId} {size n : Nat} {v : Value} {xs : List Value} (h : w.ownsRow base e size v n xs) (hb : Below w.heap.size w w') : w'.ownsRow base e size v n xs := owns_only h (Only.of_below (fun _ => False) hb) (fun _ _ h => h)
theorem owns_apart {w w' : World} {base base' : Nat} {e e' : TypeId} {size size' n n' : Nat} {v v' : Value} {xs xs' : List Value} (h : w.ownsRow base e size v n xs) (h' : w.ownsRow base' e' size' v' n' xs') (hne : e ≠ e') (hg : w.grownBy w' v'.ownBlock) :
    w'.ownsRow base e size v n xs := owns_only h (Only.of_grown hg) (fun g hg => owns_ne h h' hne hg)
theorem step_append_own {P : Program} {w : World} {ops : Array Oper} {o : Oper} {a : Act} {K : Act → World → Prop} {Q : Exit → Act → World → Prop} (E : Prop) (hgd : o.guard = none) (s x : Operand) (t : TypeId)
    (ho : o.op = .call { callee := .builtin .append, args := #[s, x], argTypes := #[t, t] })
    (base : Nat) (e : TypeId) (i : TypeInfo) (z : Value) (size bytes : Nat) (ht : P.underlying t = some (.slice e)) (hi : P.info? e = some i) (hz : i.zero = some z)
    (hsize : i.size = size) (hby : i.bytes = bytes) (hzs : z.cells.size = size) (hsz : 0 < size)
    (v : Value) (n : Nat) (xs : List Value) (hs : a.eval s = v) (hown : w.ownsRow base e size v n xs)
    (B : Nat) (A : Option Addr) (m c : Nat) (news : List Value) (hx : a.eval x = .slice A m c) (hr : Reads w B size A m news) (h1 : ∀ u ∈ news, u.oneCell' = true)
    (h63 : n + m ≤ maxLen) (hbytes : (n + m) * bytes ≤ 140737488355328) (hbase : base ≤ w.heap.size)
    (h : ∀ v' w', w.ownsRow base e size v n xs → w'.ownsRow base e size v' (n + m) (xs ++ news) → w.grownBy w' v.ownBlock → (v'.ownBlock = v.ownBlock ∨ v'.ownBlock = some w.heap.size) → K (a.put o.dst v') w') :
    if Region.wanted o (yielded ops a.tmps) = true then Oper.wp P o a w K Q else E :=
  step_append_any w hgd s x t ho base e i z size bytes ht hi hz hsize hby hzs hsz v n xs hs hown B A m c news hx hr h1 h63 hbytes hbase (fun v' w' h2 h3 h4 => h v' w' hown h2 h3 h4)

set_option maxHeartbeats 1000000 in
theorem rremove_no (w : World) (B : Nat) (ev fv : Value) (r : R) (s : Int) (h : RefAt w B ev fv r) (hm : r.E.length ≤ 1048576) (hp : placeR r.E s = none) :
    Calls Try.prog 32 #[refV ev fv r, .int .i64 s] w (RefPost w B r (.bool false)) := by
  have H := Lib.hid h
  have hP := fun W hW => rplace_any W B ev fv r s (h.below hW) hm
  simp only [hp] at hP
  have HP := Lib.hid hP
  clear h hP hp
  have t1 : oi none < 0 := by decide
  unfold refV
  go_enter Try.func32, Try.ntmps32
  go_wp2_with fail
  generalize hwa : World.alloc (World.alloc w _) _ = wa
  have hb0 : Below w.heap.size w wa := by rw [← hwa]; exact ((Below.refl _ _).alloc (Nat.le_refl _) _).alloc (by simp) _
  have hk0 : Blk wa w.heap.size 28 #[ev, fv, .int .i64 (r.U : Int)] := by rw [← hwa]; exact (Blk.new w _ _).alloc _
  have hk1 : Blk wa (w.heap.size + 1) 28 #[.slice none 0 0, .slice none 0 0, .int .i64 0] := by rw [← hwa]; exact heap_alloc_at _ _ _ (by simp)
  clear hwa
  refine (HP.out wa hb0).mono ?_
  rintro e w1 ⟨rfl, hb1⟩
  have g0 := hk0.below hb1 hk0.lt
  have g1 := hk1.below hb1 hk1.lt
  obtain ⟨a1, c1, rfl⟩ := owns_form H.out.el
  obtain ⟨a2, c2, rfl⟩ := owns_form H.out.fr
  have k0 := g0.cell 0
  have k1 := g0.cell 1
  have k2 := g0.cell 2
  have z0 := g1.cell 0
  have z1 := g1.cell 1
  have z2 := g1.cell 2
  simp at k0 k1 k2 z0 z1 z2
  have y0 := g1.frozen 0
  have y1 := g1.frozen 1
  have y2 := g1.frozen 2
  have HBB := Lib.hid (hb0.trans (hb1.mono hb0.size))
  have HG := Lib.hid g1
  clear hb0 hb1 g0 g1 hk0 hk1
  go_wp2
  have hs := set3_only w1 (w.heap.size + 1) (.slice a1 r.E.length c1) (.slice a2 r.F.length c2) (.int .i64 (r.U : Int))
  have hb := hs.below_trans HBB.out HBB.out.size (fun k hk => by omega)
  exact bodyPost_ret (results_cell_one rfl _ _ (w.heap.size + 1) _ _ (0, 0) _ rfl (set3_blk HG.out _ _ _) Try.underlying28 rfl (by kernel_rfl)) rfl ⟨_, _, rfl, hb, H.out.below hb⟩

set_option maxHeartbeats 40000000 in
theorem rremove_yes (w : World) (B : Nat) (ev fv : Value) (r : R) (i : Nat) (x : Nat × Int) (h : RefAt w B ev fv r) (hB : B ≤ w.heap.size) (hm : r.E.length ≤ 1048576) (hF : r.F.length ≤ 1048576) (hx : r.E[i]? = some x) (hp : placeR r.E (x.1 : Int) = some i) :
    Calls Try.prog 32 #[refV ev fv r, .int .i64 (x.1 : Int)] w (RefPost w B (removeR r i x.1) (.bool true)) := by
  obtain ⟨i0, hi0, hz0, hz1, hz2⟩ := info_parts int_info
  have hil : i < r.E.length := by
    rcases Nat.lt_or_ge i r.E.length with h1 | h1
    · exact h1
    · rw [List.getElem?_eq_none h1] at hx; cases hx
  obtain ⟨s, xv⟩ := x
  have H := Lib.hid h
  have hP := fun W hW => rplace_any W B ev fv r (s : Int) (h.below hW) hm
  simp only [hp] at hP
  have HP := Lib.hid hP
  have HX := Lib.hid hx
  obtain ⟨a1, g, c1, rfl, hA, hcap, hcells⟩ := elem_cells h
  obtain ⟨rfl, hg⟩ := hA (by omega)
  obtain ⟨a2, c2, rfl⟩ := owns_form h.fr
  clear h hP hp hx hA hcells
  have t1 : ¬ ((i : Int) < 0) := by omega
  unfold refV
  go_enter Try.func32, Try.ntmps32
  go_wp2_with fail
  generalize hwa : World.alloc (World.alloc w _) _ = wa
  have hb0 : Below w.heap.size w wa := by rw [← hwa]; exact ((Below.refl _ _).alloc (Nat.le_refl _) _).alloc (by simp) _
  have hk0 : Blk wa w.heap.size 28 #[.slice (some ⟨g, 0, none⟩) r.E.length c1, .slice a2 r.F.length c2, .int .i64 (r.U : Int)] := by rw [← hwa]; exact (Blk.new w _ _).alloc _
  have hk1 : Blk wa (w.heap.size + 1) 28 #[.slice none 0 0, .slice none 0 0, .int .i64 0] := by rw [← hwa]; exact heap_alloc_at _ _ _ (by simp)
  clear hwa
  refine (HP.out wa hb0).mono ?_
  rintro e w1 ⟨rfl, hb1⟩
  rw [show oi (some i) = (i : Int) from rfl]
  have g0 := hk0.below hb1 hk0.lt
  have g1 := hk1.below hb1 hk1.lt
  have k0 := g0.cell 0
  have k1 := g0.cell 1
  have k2 := g0.cell 2
  simp at k0 k1 k2
  have hbb := hb0.trans (hb1.mono hb0.size)
  have HBB := Lib.hid hbb
  have HG := Lib.hid g1
  have HG0 := Lib.hid g0
  have hn1 := g1.lt
  have hn0 : w.heap.size < w1.heap.size := by omega
  clear hb0 hb1 hk0 hk1
  go_wp2_with fail
  have HEV : Hid (∀ W, Below w1.heap.size w1 W → W.ownsRow B 47 2 (.slice (some ⟨g, 0, none⟩) r.E.length c1) r.E.length (elemsOf r.E)) := fun W hW => ((H.out.below hbb).below hW).el
  have HRD : Hid (∀ W, Below w1.heap.size w1 W → Reads W w.heap.size 1 a2 r.F.length (freesOf r.F)) := fun W hW => ((Reads.of_own H.out.fr).below hbb).below (hW.mono hbb.size)
  have HBC := Lib.hid (Below.refl w1.heap.size w1)
  clear g0 g1 hbb
  go_region_held3 (fun w' => w'.cell? ⟨w.heap.size, 0, none⟩ = some (.slice (some ⟨g, 0, none⟩) r.E.length c1) ∧ w'.cell? ⟨w.heap.size, 1, none⟩ = some (.slice a2 r.F.length c2) ∧ w'.cell? ⟨w.heap.size, 2, none⟩ = some (.int .i64 (r.U : Int)))
    (first | go_keep | exact ⟨(HBC.out.cell (p := ⟨w.heap.size, 0, none⟩) hn0).trans k0, (HBC.out.cell (p := ⟨w.heap.size, 1, none⟩) hn0).trans k1, (HBC.out.cell (p := ⟨w.heap.size, 2, none⟩) hn0).trans k2⟩ | (dsimp only; (repeat' apply And.intro) <;> go_keep))
    (first
      | (refine step_append_own _ rfl (.tmp 17) (.tmp 19) _ rfl w1.heap.size 3 i0 _ 1 8 Try.underlying22 hi0 hz0 hz1 hz2 rfl (by omega) _ 0 [] (by rfl) (own_of_blk ?_ ?_) w.heap.size a2 r.F.length c2 (freesOf r.F) (by rfl) (HRD.out _ ?_) (frees_one _) (by unfold maxLen; omega) (by omega) ?_ ?_
         · repeat (first | (with_reducible exact blk_at _ _ _ _ (by simp; done)) | (with_reducible refine Blk.alloc ?_ _) | (with_reducible refine Blk.drew ?_) | (with_reducible refine HOLDW.out _ _ _ ?_) | (with_reducible refine HOLD3.out _ _ _ (by simp [Value.ownBlock] <;> omega) ?_))
         · have := HBC.out.size; omega
         · repeat (first | (with_reducible exact HBC.out) | (with_reducible refine belowDrew2 ?_) | (with_reducible refine below_al ?_ _))
         · have := HBC.out.size; simp; omega
         intro v3 w3 hown3 ho3 hg3 hat3
         rw [Nat.zero_add, List.nil_append] at ho3
         obtain ⟨a3, c3, rfl⟩ := owns_form ho3
         have hBEL : Below w1.heap.size w1 _ := below_own (a := w1) (by repeat (first | (with_reducible exact HBC.out) | (with_reducible refine belowDrew2 ?_) | (with_reducible refine below_al ?_ _))) hown3 hg3
         have HI1 := Lib.hid ho3
         (try (have _c := HWO; have HWO : Hid (w3.ownsRow w1.heap.size 47 2 (.slice aW (without r.E i).length cW) (without r.E i).length (elemsOf (without r.E i))) := owns_apart (by repeat (first | (with_reducible exact HWO.out) | (with_reducible refine World.ownsRow.drew ?_) | (with_reducible refine World.ownsRow.alloc ?_ _))) hown3 (by decide) hg3))
         have HOLD3 := Lib.hid (hold_grown hg3)
         have hsz3 := hg3.size
         (try simp at hsz3)
         have HBC := Lib.hid hBEL
         have hk9 := HG.out.below HBC.out hn1; have z0 := hk9.cell 0; have z1 := hk9.cell 1; have z2 := hk9.cell 2; have y0 := hk9.frozen 0; have y1 := hk9.frozen 1; have y2 := hk9.frozen 2; simp at z0 z1 z2; have HK9 := Lib.hid hk9; have hsz9 := HBC.out.size; clear hk9
         clear hown3 ho3 hg3 hat3 hBEL)
      | (refine step_append_own _ rfl (.tmp 20) (.tmp 22) _ rfl w1.heap.size 3 i0 _ 1 8 Try.underlying22 hi0 hz0 hz1 hz2 rfl (by omega) (.slice a3 r.F.length c3) r.F.length (freesOf r.F) (by rfl) ?_ _ _ 1 1 [.int .i64 (s : Int)] (by rfl) (reads_of_blk (t := 3) ?_) (by intro u hu; simp at hu; subst hu; rfl) (by unfold maxLen; omega) (by omega) ?_ ?_
         · repeat (first | (with_reducible exact HI1.out) | (with_reducible refine World.ownsRow.drew ?_) | (with_reducible refine World.ownsRow.alloc ?_ _))
         · repeat (first | (with_reducible exact blk_at _ _ _ _ (by simp; done)) | (with_reducible refine Blk.alloc ?_ _) | (with_reducible refine Blk.drew ?_) | (with_reducible refine HOLDW.out _ _ _ ?_) | (with_reducible refine HOLD3.out _ _ _ (by simp [Value.ownBlock] <;> omega) ?_))
         · have := HBC.out.size; simp; omega
         intro v4 w4 hown4 ho4 hg4 hat4
         obtain ⟨a4, c4, rfl⟩ := owns_form ho4
         have hBEL : Below w1.heap.size w1 _ := below_own (a := w1) (by repeat (first | (with_reducible exact HBC.out) | (with_reducible refine belowDrew2 ?_) | (with_reducible refine below_al ?_ _))) hown4 hg4
         have HI2 := Lib.hid ho4
         (try (have _c := HWO; have HWO : Hid (w4.ownsRow w1.heap.size 47 2 (.slice aW (without r.E i).length cW) (without r.E i).length (elemsOf (without r.E i))) := owns_apart (by repeat (first | (with_reducible exact HWO.out) | (with_reducible refine World.ownsRow.drew ?_) | (with_reducible refine World.ownsRow.alloc ?_ _))) hown4 (by decide) hg4))
         have HBC := Lib.hid hBEL
         have hk9 := HG.out.below HBC.out hn1; have z0 := hk9.cell 0; have z1 := hk9.cell 1; have z2 := hk9.cell 2; have y0 := hk9.frozen 0; have y1 := hk9.frozen 1; have y2 := hk9.frozen 2; simp at z0 z1 z2; have HK9 := Lib.hid hk9; have hsz9 := HBC.out.size; clear hk9
         clear hown4 ho4 hg4 hat4 hBEL)
      | (go_simp; go_at_call 39; refine (rwithout_any _ B g c1 r.E i (HEV.out _ ?_) hil hm hcap).mono ?_
         · repeat (first | (with_reducible exact HBC.out) | (with_reducible refine belowDrew2 ?_) | (with_reducible refine below_al ?_ _))
         rintro e wW ⟨aW, cW, rfl, hbW, hoW⟩
         have hBEL : Below w1.heap.size w1 _ := below_step (a := w1) (by repeat (first | (with_reducible exact HBC.out) | (with_reducible refine belowDrew2 ?_) | (with_reducible refine below_al ?_ _))) hbW
         have hleW := below_le (a := w1) (by repeat (first | (with_reducible exact HBC.out) | (with_reducible refine belowDrew2 ?_) | (with_reducible refine below_al ?_ _))) hbW
         have HWO : Hid (wW.ownsRow w1.heap.size 47 2 (.slice aW (without r.E i).length cW) (without r.E i).length (elemsOf (without r.E i))) := owns_base hoW hleW
         (try (have _c := HI1; have HI1 : Hid (wW.ownsRow w1.heap.size 3 1 (.slice a3 r.F.length c3) r.F.length (freesOf r.F)) := owns_below2 (by repeat (first | (with_reducible exact HI1.out) | (with_reducible refine World.ownsRow.drew ?_) | (with_reducible refine World.ownsRow.alloc ?_ _))) hbW))
         (try (have _c := HI2; have HI2 : Hid (wW.ownsRow w1.heap.size 3 1 (.slice a4 (r.F.length + 1) c4) (r.F.length + 1) (freesOf r.F ++ [.int .i64 (s : Int)])) := owns_below2 (by repeat (first | (with_reducible exact HI2.out) | (with_reducible refine World.ownsRow.drew ?_) | (with_reducible refine World.ownsRow.alloc ?_ _))) hbW))
         have HOLDW := Lib.hid (hold_below hbW)
         have hszW := hbW.size
         (try simp at hszW)
         have HBC := Lib.hid hBEL
         have hk9 := HG.out.below HBC.out hn1; have z0 := hk9.cell 0; have z1 := hk9.cell 1; have z2 := hk9.cell 2; have y0 := hk9.frozen 0; have y1 := hk9.frozen 1; have y2 := hk9.frozen 2; simp at z0 z1 z2; have HK9 := Lib.hid hk9; have hsz9 := HBC.out.size; clear hk9
         clear hbW hoW hleW hBEL))
  all_goals
    go_wp2
    have hBw : B ≤ w1.heap.size := by omega
    have hb9 := HBB.out.trans (HBC.out.mono HBB.out.size)
    have hE9 : (removeR r i s).E = without r.E i := rfl
    have hF9 : (removeR r i s).F.length = r.F.length + 1 := by show (r.F ++ [s]).length = _; simp
    have hf9 : freesOf (removeR r i s).F = freesOf r.F ++ [.int .i64 (s : Int)] := by show freesOf (r.F ++ [s]) = _; unfold freesOf; simp
    have hfin := ref_fin (B := B) (r' := removeR r i s) (ev := .slice aW (without r.E i).length cW) (fv := .slice a4 (r.F.length + 1) c4) (g := w.heap.size + 1) hB (by omega) hb9 HK9.out (by rw [hE9]; exact owns_base HWO.out hBw) (by rw [hF9, hf9]; exact owns_base HI2.out hBw)
    exact bodyPost_ret (results_cell_one rfl _ _ (w.heap.size + 1) _ _ (0, 0) _ rfl (set3_blk HK9.out _ _ _) Try.underlying28 rfl (by kernel_rfl)) rfl ⟨_, _, rfl, hfin.1, hfin.2⟩
end Go.Proofs.Ytlkpdmblhejnhaa
