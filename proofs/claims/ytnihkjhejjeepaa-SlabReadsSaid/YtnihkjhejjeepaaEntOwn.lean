/- own.Entry. -/
import Derived.Test.YtnihkjhejjeepaaEnt
namespace Go.Proofs.Ytnihkjhejjeepaa
open Go.RowKit
set_option linter.unusedVariables false
set_option linter.unusedSimpArgs false
open ShaW Sha

/-- a copy of an entry -/
def OwnPost (w : World) (e : Ent) (ed : Ending) (w' : World) : Prop := ∃ rv pv, ed = .returned (entV e rv pv) ∧ Below w.heap.size w w' ∧ EntAt w' w.heap.size e rv pv
set_option maxRecDepth 100000 in
set_option maxHeartbeats 2000000 in
attribute [local go_sem ↓] wp_load_ent wp_store_ent in
theorem ownEntry_any (w : World) (e : Ent) (rv pv : Value) (h : EntRd w e rv pv) (hn : e.rn ≤ 1048576) (hp : e.peers.length ≤ 1048576) :
    Calls Try.prog 32 #[entV e rv pv] w (OwnPost w e) := by
  obtain ⟨A, c, rfl, hra, _⟩ := h.raw
  obtain ⟨Ap, cp, rfl, hpa, _⟩ := h.peers
  obtain ⟨cx, hcx⟩ : ∃ cx, (entCells e (.slice A e.rn c) (.slice Ap e.peers.length cp)).toArray = cx := ⟨_, rfl⟩
  show Calls _ _ #[.agg _] _ _
  rw [hcx]
  obtain ⟨n, hnn⟩ : ∃ n, e.rn = n := ⟨_, rfl⟩
  obtain ⟨m, hmm⟩ : ∃ m, e.peers.length = m := ⟨_, rfl⟩
  have HCX := Lib.hid hcx
  have HE := Lib.hid h
  have HN := Lib.hid hnn
  have HM := Lib.hid hmm
  rw [hnn] at hn
  rw [hmm] at hp
  clear hcx h hnn hmm hra hpa
  go_enter Try.func32, Try.ntmps32
  go_upto_region 1 with (fail)
  generalize hwa : World.alloc (World.alloc w _) _ = wa
  have hb0 : Below w.heap.size w wa := by rw [← hwa]; exact ((Below.refl _ _).alloc (Nat.le_refl _) _).alloc (by simp) _
  have hk1 : Blk wa w.heap.size 38 (entCells e (.slice A e.rn c) (.slice Ap e.peers.length cp)).toArray := by rw [← hwa, HCX.out]; exact (Blk.new w _ _).alloc _
  have hk2 : ∃ z : Array Value, Blk wa (w.heap.size + 1) 38 z ∧ z.size = 41 := by rw [← hwa]; exact ⟨_, heap_alloc_at _ _ _ (by simp), rfl⟩
  obtain ⟨z, hk2, hz41⟩ := hk2
  rw [HN.out, HM.out] at hk1
  have he1 := HE.out.below hb0
  have hC1 : ∀ W, Below wa.heap.size wa W → Calls Try.prog 37 #[.slice A n c] W (BClone W (bytesOf n e.raw) 5) := fun W hW => by
    obtain ⟨A', c', e', h1, _⟩ := (he1.below hW).raw
    injection e' with e1 _ _
    subst e1
    rw [HN.out] at h1
    exact bclone_any W A n c _ h1 (bytesOf_one _ _) (by omega)
  have hC2 : ∀ W, Below wa.heap.size wa W → Calls Try.prog 38 #[.slice Ap m cp] W (BClone W (intsV e.peers) 3) := fun W hW => by
    obtain ⟨A', c', e', h1, _⟩ := (he1.below hW).peers
    injection e' with e1 _ _
    subst e1
    rw [HM.out] at h1
    exact iclone_any W Ap m cp _ h1 (intsV_one _) (by omega)
  have HB0 := Lib.hid hb0
  have HK1 := Lib.hid hk1
  have HK2 := Lib.hid hk2
  have HC1 := Lib.hid hC1
  have HC2 := Lib.hid hC2
  have hg : ∀ W, Below wa.heap.size wa W → Blk W w.heap.size 38 (entCells e (.slice A n c) (.slice Ap m cp)).toArray := fun W hW => hk1.below hW hk1.lt
  have HG := Lib.hid hg
  have x32 : wa.cell? ⟨w.heap.size, 32, none⟩ = some (.slice A n c) := by rw [hk1.cell]; exact List.getElem?_toArray.trans (entCells_get e _ _ 0)
  have x40 : wa.cell? ⟨w.heap.size, 40, none⟩ = some (.slice Ap m cp) := by rw [hk1.cell]; exact List.getElem?_toArray.trans (entCells_get e _ _ 8)
  have hl0 := hk1.lt
  have hz0 := hb0.size
  have hbl : (bytesOf n e.raw).length = n := bytesOf_length _ _
  have hil : (intsV e.peers).length = m := by rw [intsV_len]; exact HM.out
  have HBL := Lib.hid hbl
  have HIL := Lib.hid hil
  clear hwa hb0 hk1 hk2 he1 hC1 hC2 hg hbl hil
  go_region_law (first
    | (go_simp; go_at_call 37; refine (HC1.out _ (belowDrewR (Below.refl _ _))).mono ?_
       rintro e4 w4 ⟨A4, c4, rfl, hb4, ho4⟩
       rw [HBL.out] at ho4 ⊢
       have hb4 : Below wa.heap.size wa w4 := (belowDrewR (Below.refl _ _)).trans hb4
       have hk4 := HG.out w4 hb4
       have x32 : w4.cell? ⟨w.heap.size, 32, none⟩ = some (.slice A n c) := by rw [hk4.cell]; exact List.getElem?_toArray.trans (entCells_get e _ _ 0)
       have x40 : w4.cell? ⟨w.heap.size, 40, none⟩ = some (.slice Ap m cp) := by rw [hk4.cell]; exact List.getElem?_toArray.trans (entCells_get e _ _ 8)
       have HB4 := Lib.hid hb4
       have HO4 := Lib.hid ho4
       clear hb4 ho4 hk4)
    | (go_simp; go_at_call 38; refine (HC2.out _ HB4.out).mono ?_
       rintro e5 w5 ⟨A5, c5, rfl, hb5, ho5⟩
       rw [HIL.out] at ho5 ⊢
       have hb5' : Below wa.heap.size wa w5 := HB4.out.trans (hb5.mono HB4.out.size)
       have hk5 := HG.out w5 hb5'
       have x32 : w5.cell? ⟨w.heap.size, 32, none⟩ = some (.slice A n c) := by rw [hk5.cell]; exact List.getElem?_toArray.trans (entCells_get e _ _ 0)
       have x40 : w5.cell? ⟨w.heap.size, 40, none⟩ = some (.slice Ap m cp) := by rw [hk5.cell]; exact List.getElem?_toArray.trans (entCells_get e _ _ 8)
       have y32 := hk5.frozen 32
       have y40 := hk5.frozen 40
       have HB5 := Lib.hid hb5'
       have HO5 := Lib.hid ho5
       have HO4' := Lib.hid (owns_below HO4.out hb5)
       have HK5 := Lib.hid hk5
       clear hb5 hb5' ho5 hk5))
  all_goals
    go_upto_region 2 with (fail)
    generalize hw6 : World.setCell (World.setCell _ _ _) _ _ = w6
    have hk6 : Blk w6 w.heap.size 38 (entCells e (.slice A4 n c4) (.slice A5 m c5)).toArray := by
      rw [← hw6, ← entCells_set e (.slice A n c) (.slice Ap m cp)]
      exact (HK5.out.set_ 32 _).set_ 40 _
    have ho6 : Only (fun g => g = w.heap.size) w5 w6 := by
      rw [← hw6]
      exact ((Only.refl (fun g => g = w.heap.size) w5).setCell_ (p := ⟨w.heap.size, 32, none⟩) (.inl rfl) _).setCell_ (p := ⟨w.heap.size, 40, none⟩) (.inl rfl) _
    have hr6 : Blk w6 (w.heap.size + 1) 38 z := (HK2.out.below HB5.out HK2.out.lt).only ho6 (by omega)
    have he6 : EntAt w6 w.heap.size e (.slice A4 n c4) (.slice A5 m c5) := by
      have h1 := owns_only HO4'.out ho6 (fun g hg hgg => own_blk_ne HO4'.out HK5.out (by decide) (hgg ▸ hg))
      have h2 := owns_only HO5.out ho6 (fun g hg hgg => own_blk_ne HO5.out HK5.out (by decide) (hgg ▸ hg))
      refine ⟨?_, ?_⟩
      · rw [HN.out]; exact owns_base2 h1 (by have := HB4.out.size; simp; omega)
      · rw [HM.out]; exact owns_base2 h2 (by have := HB4.out.size; omega)
    have q1 := aggOk_mk (n := 41) (blk_rangeN hk6) (entCells_len _ _ _)
    have q2 := loadN_eq (n := 41) (blk_rangeN hk6) (entCells_len _ _ _)
    have q3 : StoOk 41 w6 (.pointer (some ⟨w.heap.size + 1, 0, none⟩)) (.agg (entCells e (.slice A4 n c4) (.slice A5 m c5)).toArray) := ⟨_, _, _, rfl, rfl, entCells_len _ _ _, blk_there hr6 (by omega), entCells_one rfl rfl⟩
    have hb6 : Below w.heap.size w w6 := Only.below_trans (HB0.out.trans (HB5.out.mono hz0)) ho6 (by have := HB5.out.size; omega) (fun g hg => hg ▸ Nat.le_refl _)
    have HR6 := Lib.hid hr6
    have HE6 := Lib.hid he6
    have HB6 := Lib.hid hb6
    have hle6 := hr6.lt
    clear hw6 hk6 ho6 hr6 he6 hb6 x32 x40 y32 y40
    go_wp2_with fail
    rw [storeMid_eq]
    have hrr := setCells_whole HR6.out (hz41.trans (entCells_len e (.slice A4 n c4) (.slice A5 m c5)).symm)
    have oo := setCells_only (fun g => g = w.heap.size + 1) w6 (w.heap.size + 1) 0 (entCells e (.slice A4 n c4) (.slice A5 m c5)) (.inl rfl)
    refine bodyPost_ret (results_cell_row rfl _ _ (w.heap.size + 1) _ (entCells e (.slice A4 n c4) (.slice A5 m c5)).toArray (0, 0) _ rfl hrr Try.underlying38 rfl (by rw [List.size_toArray, entCells_len]; kernel_rfl)) rfl
      ⟨_, _, rfl, Only.below_trans HB6.out oo HB6.out.size (fun g hg => by omega), HE6.out.only oo (fun g h1 h2 => own_blk_ne HE6.out.raw HR6.out (by decide) (h2 ▸ h1)) (fun g h1 h2 => own_blk_ne HE6.out.peers HR6.out (by decide) (h2 ▸ h1))⟩
end Go.Proofs.Ytnihkjhejjeepaa
