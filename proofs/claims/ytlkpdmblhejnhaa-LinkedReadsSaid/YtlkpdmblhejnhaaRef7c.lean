/- The reference's list: PushBack, PushFront. -/
import Derived.Test.YtlkpdmblhejnhaaRef7b
namespace Go.Proofs.Ytlkpdmblhejnhaa
open Go.RowKit
set_option linter.unusedVariables false
open Lnk

theorem lit0 (w : World) (e : TypeId) (size : Nat) : (w.alloc (.cells #[] e)).ownsRow w.heap.size e size (.slice (some ⟨w.heap.size, 0, none⟩) 0 0) 0 [] :=
  World.ownsRow_lit (base := w.heap.size) (e := e) (size := size) w #[] 0 (Nat.le_refl _) (by unfold maxLen; omega) (by simp)
theorem lit0' (w : World) (e : TypeId) (size H : Nat) (hH : w.heap.size = H) : (w.alloc (.cells #[] e)).ownsRow H e size (.slice (some ⟨H, 0, none⟩) 0 0) 0 [] := by
  subst hH; exact lit0 w e size
/-- the box of a parameter or result turned whole -/
def set3 (w : World) (g : Nat) (a b c : Value) : World := ((w.setCell ⟨g, 0, none⟩ a).setCell ⟨g, 1, none⟩ b).setCell ⟨g, 2, none⟩ c
theorem set3_only (w : World) (g : Nat) (a b c : Value) : Only (fun k => k = g) w (set3 w g a b c) :=
  (((Only.refl (fun k => k = g) w).setCell_ (p := ⟨g, 0, none⟩) (.inl rfl) _).setCell_ (p := ⟨g, 1, none⟩) (.inl rfl) _).setCell_ (p := ⟨g, 2, none⟩) (.inl rfl) _
theorem set3_blk {w : World} {g : Nat} {t : TypeId} {x y z : Value} (h : Blk w g t #[x, y, z]) (a b c : Value) : Blk (set3 w g a b c) g t #[a, b, c] := ((h.set_ 0 a).set_ 1 b).set_ 2 c
theorem set3_size (w : World) (g : Nat) (a b c : Value) : (set3 w g a b c).heap.size = w.heap.size := by simp [set3]
theorem RefAt.box {w w' : World} {B g : Nat} {ev fv : Value} {r : R} {cs : Array Value} (h : RefAt w B ev fv r) (hb : Blk w g 28 cs) (ho : Only (fun k => k = g) w w') : RefAt w' B ev fv r :=
  ⟨owns_only h.el ho fun k hk e => own_blk_ne h.el hb (by decide) (by rw [← e]; exact hk), owns_only h.fr ho fun k hk e => own_blk_ne h.fr hb (by decide) (by rw [← e]; exact hk)⟩
theorem elem_reads {w : World} {B : Nat} {A : Option Addr} {c n : Nat} {E : List (Nat × Int)} (h : w.ownsRow B 47 2 (.slice A n c) n (elemsOf E)) : Reads w w.heap.size 2 A n (elemsOf E) := Reads.of_own h

set_option maxHeartbeats 1000000 in
theorem rpushBack_any (w : World) (B : Nat) (ev fv : Value) (r : R) (v : Int) (h : RefAt w B ev fv r) (hB : B ≤ w.heap.size) (hF : r.F.length ≤ 1048576) (hU : r.U ≤ 1048576) (hE : r.E.length ≤ 1048576) :
    Calls Try.prog 30 #[refV ev fv r, .int .i64 v] w (RefPost w B (pushBackR r v) (.int .i64 (slotR r : Int))) := by
  obtain ⟨i0, hi, hz0, hz1, hz2⟩ := info_parts elem_info
  have H := Lib.hid h
  have hT := fun W hW => rtake_any W B ev fv r (h.below hW) (by have := hW.size; omega) hF hU
  have HT := Lib.hid hT
  clear h hT
  unfold refV
  go_enter Try.func30, Try.ntmps30
  go_wp2_with fail
  generalize hwa : World.alloc (World.alloc w _) _ = wa
  have hb0 : Below w.heap.size w wa := by rw [← hwa]; exact ((Below.refl _ _).alloc (Nat.le_refl _) _).alloc (by simp) _
  have hk0 : Blk wa w.heap.size 28 #[ev, fv, .int .i64 (r.U : Int)] := by rw [← hwa]; exact (Blk.new w _ _).alloc _
  have hk1 : Blk wa (w.heap.size + 1) 28 #[.slice none 0 0, .slice none 0 0, .int .i64 0] := by rw [← hwa]; exact heap_alloc_at _ _ _ (by simp)
  have hz1l := hk1.lt
  clear hwa
  refine (HT.out wa hb0).mono ?_
  rintro e w1 ⟨ev1, fv1, rfl, hb1, h1⟩
  have g0 := hk0.below hb1 hk0.lt
  have g1 := hk1.below hb1 hk1.lt
  obtain ⟨a1, c1, rfl⟩ := owns_form h1.el
  obtain ⟨a2, c2, rfl⟩ := owns_form h1.fr
  have k0 := g0.cell 0
  have k1 := g0.cell 1
  have k2 := g0.cell 2
  simp at k0 k1 k2
  have y0 := g0.frozen 0
  have y1 := g0.frozen 1
  have y2 := g0.frozen 2
  have hlt1 : w.heap.size < w1.heap.size := by have := hb1.size; omega
  have hlt2 : w.heap.size + 1 < w1.heap.size := by have := hb1.size; omega
  have HB0 := Lib.hid hb0
  have HB1 := Lib.hid hb1
  have HK0 := Lib.hid g0
  have HK1 := Lib.hid g1
  have H1 := Lib.hid h1
  clear hb0 hb1 g0 g1 h1 hk0 hk1
  unfold refV
  go_wp2_with (at_builtin; refine halted ?_)
  change wpList _ _ _ _ _ (World.alloc (set3 w1 w.heap.size (.slice a1 (takeR r).E.length c1) (.slice a2 (takeR r).F.length c2) (.int .i64 ((takeR r).U : Int))) _)
  obtain ⟨w2, hw2⟩ : ∃ w2, set3 w1 w.heap.size (.slice a1 (takeR r).E.length c1) (.slice a2 (takeR r).F.length c2) (.int .i64 ((takeR r).U : Int)) = w2 := ⟨_, rfl⟩
  have hset : Only (fun k => k = w.heap.size) w1 w2 := by rw [← hw2]; exact set3_only _ _ _ _ _
  have hs2 : w2.heap.size = w1.heap.size := by rw [← hw2]; exact set3_size _ _ _ _ _
  have g2 : Blk w2 w.heap.size 28 #[.slice a1 (takeR r).E.length c1, .slice a2 (takeR r).F.length c2, .int .i64 ((takeR r).U : Int)] := by rw [← hw2]; exact set3_blk HK0.out _ _ _
  have g3 : Blk w2 (w.heap.size + 1) 28 #[.slice none 0 0, .slice none 0 0, .int .i64 0] := HK1.out.only hset (by omega)
  have hb2 : Below w.heap.size w w2 := hset.below_trans (HB0.out.trans (HB1.out.mono HB0.out.size)) (by omega) (fun k hk => by omega)
  have h2 : RefAt w2 B (.slice a1 (takeR r).E.length c1) (.slice a2 (takeR r).F.length c2) (takeR r) := H1.out.box HK0.out hset
  rw [hw2]
  have hrd : Reads (w2.alloc (.cells #[] 47)) w2.heap.size 2 a1 (takeR r).E.length (elemsOf (takeR r).E) := (Reads.of_own h2.el).alloc (Nat.le_refl _) _
  have HRD := Lib.hid hrd
  have HB2 := Lib.hid hb2
  have HG2 := Lib.hid g2
  have HG3 := Lib.hid g3
  have H2 := Lib.hid h2
  have HS2 := Lib.hid hs2
  have hbase : w1.heap.size ≤ (w2.alloc (.cells #[] 47)).heap.size := by simp; omega
  have hE' : (takeR r).E.length ≤ 1048576 := hE
  clear hw2 hset hrd hb2 g2 g3 h2 k0 k1 k2 y0 y1 y2 hs2
  refine wpList_append_any _ rfl (.tmp 12) (.tmp 14) _ rfl w1.heap.size 47 i0 _ 2 16 Try.underlying26 hi hz0 hz1 hz2 rfl (by omega) _ 0 [] rfl (lit0' w2 _ 2 _ HS2.out) _ a1 _ c1 _ rfl HRD.out (elems_one _) (by unfold maxLen; omega) (by omega) hbase ?_
  intro v3 w3 ho3 hg3 hat3
  rw [Nat.zero_add, List.nil_append] at ho3
  have hb3 : Below w1.heap.size w2 w3 := by
    have h := (Below.refl w1.heap.size w2).alloc (by have := HS2.out; omega) (.cells #[] 47)
    exact h.grown hg3 hbase (fun g e => by have := Option.some.inj (show some w1.heap.size = some g from e); omega)
  obtain ⟨a3, c3, rfl⟩ := owns_form ho3
  have HO3 := Lib.hid ho3
  have HB3 := Lib.hid hb3
  clear ho3 hg3 hat3 hb3 hbase
  go_wp2_with (at_builtin; refine halted ?_)
  change wpList _ _ _ _ _ _
  have hbase3 : w1.heap.size ≤ w3.heap.size := by have := HB3.out.size; have := HS2.out; omega
  refine app_at rfl (.tmp 15) (.tmp 19) _ rfl w1.heap.size 47 i0 _ 2 16 Try.underlying26 hi hz0 hz1 hz2 rfl (by omega) _ _ _ rfl HO3.out [.int .i64 (slotR r : Int), .int .i64 v] _ w3.heap.size rfl rfl rfl
    (by intro u hu; simp at hu; rcases hu with rfl | rfl <;> rfl) (by omega) (by omega) hbase3 ?_
  intro a4 c4 w4 ho4 hg4 hl4
  have hb4 : Below w1.heap.size w2 w4 := HB3.out.grown hg4 hbase3 (fun g e => (HO3.out.lt g e).1)
  have e2 : w1.heap.size ≤ w2.heap.size := by have := HS2.out; omega
  have g4 := HG2.out.below hb4 hlt1
  have g5 := HG3.out.below hb4 hlt2
  have k0 := g4.cell 0
  have k1 := g4.cell 1
  have k2 := g4.cell 2
  simp at k0 k1 k2
  have y0 := g4.frozen 0
  have z0 := g5.cell 0
  have z1 := g5.cell 1
  have z2 := g5.cell 2
  simp at z0 z1 z2
  have x0 := g5.frozen 0
  have x1 := g5.frozen 1
  have x2 := g5.frozen 2
  have HO4 := Lib.hid ho4
  have HB4 := Lib.hid hb4
  have HG4 := Lib.hid g4
  have HG5 := Lib.hid g5
  clear ho4 hg4 hl4 hb4 g4 g5
  go_wp2
  have hs5 : Only (fun k => k = w.heap.size) w4 (w4.setCell ⟨w.heap.size, 0, none⟩ (.slice a4 ((takeR r).E.length + 1) c4)) := (Only.refl (fun k => k = w.heap.size) w4).setCell_ (p := ⟨w.heap.size, 0, none⟩) (.inl rfl) _
  have g6 : Blk (w4.setCell ⟨w.heap.size, 0, none⟩ (.slice a4 ((takeR r).E.length + 1) c4)) (w.heap.size + 1) 28 #[.slice none 0 0, .slice none 0 0, .int .i64 0] := HG5.out.only hs5 (by omega)
  have hs6 := set3_only (w4.setCell ⟨w.heap.size, 0, none⟩ (.slice a4 ((takeR r).E.length + 1) c4)) (w.heap.size + 1) (.slice a4 ((takeR r).E.length + 1) c4) (.slice a2 (takeR r).F.length c2) (.int .i64 ((takeR r).U : Int))
  have hb4 : Below w.heap.size w w4 := HB2.out.trans (HB4.out.mono (by omega))
  have hb5 := hs5.below_trans hb4 (by have := HB4.out.size; omega) (fun k hk => by omega)
  have hb6 := hs6.below_trans hb5 (by have := HB4.out.size; have := hs5.size; omega) (fun k hk => by omega)
  refine bodyPost_ret (results_cell_one rfl _ _ (w.heap.size + 1) _ _ (0, 0) _ rfl (set3_blk g6 _ _ _) Try.underlying28 rfl (by kernel_rfl)) rfl ⟨.slice a4 ((takeR r).E.length + 1) c4, .slice a2 (takeR r).F.length c2, ?_, hb6, ?_⟩
  · rfl
  · have ho4 := HO4.out
    have hf4 : World.ownsRow w4 B 3 1 (.slice a2 (takeR r).F.length c2) (takeR r).F.length (freesOf (takeR r).F) := by
      refine owns_only H2.out.fr ⟨HB4.out.os, HB4.out.tape, HB4.out.output, HB4.out.size, fun k hk hn => ?_⟩ (S := fun k => w1.heap.size ≤ k) (fun g hg e => ?_)
      · exact HB4.out.block k (by omega)
      · have := (H2.out.fr.lt g hg).2
        have := HS2.out
        omega
    refine ⟨?_, ?_⟩
    · have e : elemsOf (pushBackR r v).E = elemsOf (takeR r).E ++ [.int .i64 (slotR r : Int), .int .i64 v] := by
        show elemsOf (r.E ++ [(slotR r, v)]) = _
        rw [elems_append]; rfl
      have el : (pushBackR r v).E.length = (takeR r).E.length + 1 := by show (r.E ++ [(slotR r, v)]).length = _; simp; rfl
      rw [e, el]
      refine owns_only (owns_only (owns_base ho4 (by omega)) hs5 fun g hg e => ?_) hs6 fun g hg e => ?_
      · exact own_blk_ne ho4 HG4.out (by decide) (by rw [← e]; exact hg)
      · exact own_blk_ne ho4 HG5.out (by decide) (by rw [← e]; exact hg)
    · show World.ownsRow _ B _ 1 (.slice a2 (takeR r).F.length c2) (takeR r).F.length (freesOf (takeR r).F)
      refine owns_only (owns_only hf4 hs5 fun g hg e => ?_) hs6 fun g hg e => ?_
      · exact own_blk_ne hf4 HG4.out (by decide) (by rw [← e]; exact hg)
      · exact own_blk_ne hf4 HG5.out (by decide) (by rw [← e]; exact hg)
set_option maxHeartbeats 1000000 in
theorem rpushFront_any (w : World) (B : Nat) (ev fv : Value) (r : R) (v : Int) (h : RefAt w B ev fv r) (hB : B ≤ w.heap.size) (hF : r.F.length ≤ 1048576) (hU : r.U ≤ 1048576) (hE : r.E.length ≤ 1048576) :
    Calls Try.prog 31 #[refV ev fv r, .int .i64 v] w (RefPost w B (pushFrontR r v) (.int .i64 (slotR r : Int))) := by
  obtain ⟨i0, hi, hz0, hz1, hz2⟩ := info_parts elem_info
  have H := Lib.hid h
  have hT := fun W hW => rtake_any W B ev fv r (h.below hW) (by have := hW.size; omega) hF hU
  have HT := Lib.hid hT
  clear h hT
  unfold refV
  go_enter Try.func31, Try.ntmps31
  go_wp2_with fail
  generalize hwa : World.alloc (World.alloc w _) _ = wa
  have hb0 : Below w.heap.size w wa := by rw [← hwa]; exact ((Below.refl _ _).alloc (Nat.le_refl _) _).alloc (by simp) _
  have hk0 : Blk wa w.heap.size 28 #[ev, fv, .int .i64 (r.U : Int)] := by rw [← hwa]; exact (Blk.new w _ _).alloc _
  have hk1 : Blk wa (w.heap.size + 1) 28 #[.slice none 0 0, .slice none 0 0, .int .i64 0] := by rw [← hwa]; exact heap_alloc_at _ _ _ (by simp)
  have hz1l := hk1.lt
  clear hwa
  refine (HT.out wa hb0).mono ?_
  rintro e w1 ⟨ev1, fv1, rfl, hb1, h1⟩
  have g0 := hk0.below hb1 hk0.lt
  have g1 := hk1.below hb1 hk1.lt
  obtain ⟨a1, c1, rfl⟩ := owns_form h1.el
  obtain ⟨a2, c2, rfl⟩ := owns_form h1.fr
  have k0 := g0.cell 0
  have k1 := g0.cell 1
  have k2 := g0.cell 2
  simp at k0 k1 k2
  have y0 := g0.frozen 0
  have y1 := g0.frozen 1
  have y2 := g0.frozen 2
  have hlt1 : w.heap.size < w1.heap.size := by have := hb1.size; omega
  have hlt2 : w.heap.size + 1 < w1.heap.size := by have := hb1.size; omega
  have HB0 := Lib.hid hb0
  have HB1 := Lib.hid hb1
  have HK0 := Lib.hid g0
  have HK1 := Lib.hid g1
  have H1 := Lib.hid h1
  clear hb0 hb1 g0 g1 h1 hk0 hk1
  unfold refV
  go_wp2_with (at_builtin; refine halted ?_)
  change wpList _ _ _ _ _ (World.alloc (set3 w1 w.heap.size (.slice a1 (takeR r).E.length c1) (.slice a2 (takeR r).F.length c2) (.int .i64 ((takeR r).U : Int))) _)
  obtain ⟨w2, hw2⟩ : ∃ w2, set3 w1 w.heap.size (.slice a1 (takeR r).E.length c1) (.slice a2 (takeR r).F.length c2) (.int .i64 ((takeR r).U : Int)) = w2 := ⟨_, rfl⟩
  have hset : Only (fun k => k = w.heap.size) w1 w2 := by rw [← hw2]; exact set3_only _ _ _ _ _
  have hs2 : w2.heap.size = w1.heap.size := by rw [← hw2]; exact set3_size _ _ _ _ _
  have g2 : Blk w2 w.heap.size 28 #[.slice a1 (takeR r).E.length c1, .slice a2 (takeR r).F.length c2, .int .i64 ((takeR r).U : Int)] := by rw [← hw2]; exact set3_blk HK0.out _ _ _
  have g3 : Blk w2 (w.heap.size + 1) 28 #[.slice none 0 0, .slice none 0 0, .int .i64 0] := HK1.out.only hset (by omega)
  have hb2 : Below w.heap.size w w2 := hset.below_trans (HB0.out.trans (HB1.out.mono HB0.out.size)) (by omega) (fun k hk => by omega)
  have h2 : RefAt w2 B (.slice a1 (takeR r).E.length c1) (.slice a2 (takeR r).F.length c2) (takeR r) := H1.out.box HK0.out hset
  rw [hw2]
  have hrd : Reads (w2.alloc (.cells #[.int .i64 (slotR r : Int), .int .i64 v] 47)) w2.heap.size 2 a1 (takeR r).E.length (elemsOf (takeR r).E) := (Reads.of_own h2.el).alloc (Nat.le_refl _) _
  have hown : (w2.alloc (.cells #[.int .i64 (slotR r : Int), .int .i64 v] 47)).ownsRow w1.heap.size 47 2 (.slice (some ⟨w1.heap.size, 0, none⟩) 1 1) 1 [.int .i64 (slotR r : Int), .int .i64 v] := by
    have := World.ownsRow_lit (base := w2.heap.size) (e := 47) (size := 2) w2 #[.int .i64 (slotR r : Int), .int .i64 v] 1 (Nat.le_refl _) (by unfold maxLen; omega) rfl
    rw [hs2] at this
    exact this
  have HRD := Lib.hid hrd
  have HB2 := Lib.hid hb2
  have HG2 := Lib.hid g2
  have HG3 := Lib.hid g3
  have H2 := Lib.hid h2
  have HS2 := Lib.hid hs2
  have HOW := Lib.hid hown
  have hbase : w1.heap.size ≤ (w2.alloc (.cells #[.int .i64 (slotR r : Int), .int .i64 v] 47)).heap.size := by simp; omega
  have hE' : (takeR r).E.length ≤ 1048576 := hE
  clear hw2 hset hrd hb2 g2 g3 h2 k0 k1 k2 y0 y1 y2 hs2 hown
  refine wpList_append_any _ rfl (.tmp 15) (.tmp 17) _ rfl w1.heap.size 47 i0 _ 2 16 Try.underlying26 hi hz0 hz1 hz2 rfl (by omega) _ 1 _ rfl HOW.out _ a1 _ c1 _ rfl HRD.out (elems_one _) (by unfold maxLen; omega) (by omega) hbase ?_
  intro v3 w4 ho4 hg3 hat3
  rw [Nat.add_comm 1] at ho4
  have hb4 : Below w1.heap.size w2 w4 := by
    have h := (Below.refl w1.heap.size w2).alloc (by have := HS2.out; omega) (.cells #[.int .i64 (slotR r : Int), .int .i64 v] 47)
    exact h.grown hg3 hbase (fun g e => by have := Option.some.inj (show some w1.heap.size = some g from e); omega)
  obtain ⟨a4, c4, rfl⟩ := owns_form ho4
  have e2 : w1.heap.size ≤ w2.heap.size := by have := HS2.out; omega
  have g4 := HG2.out.below hb4 hlt1
  have g5 := HG3.out.below hb4 hlt2
  have k0 := g4.cell 0
  have k1 := g4.cell 1
  have k2 := g4.cell 2
  simp at k0 k1 k2
  have y0 := g4.frozen 0
  have z0 := g5.cell 0
  have z1 := g5.cell 1
  have z2 := g5.cell 2
  simp at z0 z1 z2
  have x0 := g5.frozen 0
  have x1 := g5.frozen 1
  have x2 := g5.frozen 2
  have HO4 := Lib.hid ho4
  have HB4 := Lib.hid hb4
  have HG4 := Lib.hid g4
  have HG5 := Lib.hid g5
  clear ho4 hg3 hat3 hb4 g4 g5 hbase
  go_wp2
  have hs5 : Only (fun k => k = w.heap.size) w4 (w4.setCell ⟨w.heap.size, 0, none⟩ (.slice a4 ((takeR r).E.length + 1) c4)) := (Only.refl (fun k => k = w.heap.size) w4).setCell_ (p := ⟨w.heap.size, 0, none⟩) (.inl rfl) _
  have g6 : Blk (w4.setCell ⟨w.heap.size, 0, none⟩ (.slice a4 ((takeR r).E.length + 1) c4)) (w.heap.size + 1) 28 #[.slice none 0 0, .slice none 0 0, .int .i64 0] := HG5.out.only hs5 (by omega)
  have hs6 := set3_only (w4.setCell ⟨w.heap.size, 0, none⟩ (.slice a4 ((takeR r).E.length + 1) c4)) (w.heap.size + 1) (.slice a4 ((takeR r).E.length + 1) c4) (.slice a2 (takeR r).F.length c2) (.int .i64 ((takeR r).U : Int))
  have hb4 : Below w.heap.size w w4 := HB2.out.trans (HB4.out.mono (by omega))
  have hb5 := hs5.below_trans hb4 (by have := HB4.out.size; omega) (fun k hk => by omega)
  have hb6 := hs6.below_trans hb5 (by have := HB4.out.size; have := hs5.size; omega) (fun k hk => by omega)
  refine bodyPost_ret (results_cell_one rfl _ _ (w.heap.size + 1) _ _ (0, 0) _ rfl (set3_blk g6 _ _ _) Try.underlying28 rfl (by kernel_rfl)) rfl ⟨.slice a4 ((takeR r).E.length + 1) c4, .slice a2 (takeR r).F.length c2, ?_, hb6, ?_⟩
  · rfl
  · have ho4 := HO4.out
    have hf4 : World.ownsRow w4 B 3 1 (.slice a2 (takeR r).F.length c2) (takeR r).F.length (freesOf (takeR r).F) := by
      refine owns_only H2.out.fr ⟨HB4.out.os, HB4.out.tape, HB4.out.output, HB4.out.size, fun k hk hn => ?_⟩ (S := fun k => w1.heap.size ≤ k) (fun g hg e => ?_)
      · exact HB4.out.block k (by omega)
      · have := (H2.out.fr.lt g hg).2
        have := HS2.out
        omega
    refine ⟨?_, ?_⟩
    · have e : elemsOf (pushFrontR r v).E = [.int .i64 (slotR r : Int), .int .i64 v] ++ elemsOf (takeR r).E := rfl
      have el : (pushFrontR r v).E.length = (takeR r).E.length + 1 := by rfl
      rw [e, el]
      refine owns_only (owns_only (owns_base ho4 (by omega)) hs5 fun g hg e => ?_) hs6 fun g hg e => ?_
      · exact own_blk_ne ho4 HG4.out (by decide) (by rw [← e]; exact hg)
      · exact own_blk_ne ho4 HG5.out (by decide) (by rw [← e]; exact hg)
    · show World.ownsRow _ B _ 1 (.slice a2 (takeR r).F.length c2) (takeR r).F.length (freesOf (takeR r).F)
      refine owns_only (owns_only hf4 hs5 fun g hg e => ?_) hs6 fun g hg e => ?_
      · exact own_blk_ne hf4 HG4.out (by decide) (by rw [← e]; exact hg)
      · exact own_blk_ne hf4 HG5.out (by decide) (by rw [← e]; exact hg)
end Go.Proofs.Ytlkpdmblhejnhaa
