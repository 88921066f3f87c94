/- The cache: Reset; and a cache that is nil. -/
import Derived.Test.YtegdchlbmjokmaaCacW10
import Derived.Outline
namespace Go.Proofs.Ytegdchlbmjokmaa
open Go.RowKit
set_option linter.unusedVariables false
set_option linter.unusedSimpArgs false
open Lnk

theorem creset_end {w w1 : World} {B C sz C2 D2 : Nat} {kv : Value} {kb : Option Nat} {fv rv2 : Value} {D : Nat} {M M2 : Nat} {r2 : R} {K2 : List Ky} {F2 : List Nat} {Dm2 : DataW Unit} (hB : B ≤ C)
    (hb0 : Blk w C 55 #[.int .i64 (sz : Int), .pointer (some ⟨D, 0, none⟩), kv, fv, .map (some M)]) (hb1 : Below w.heap.size w w1)
    (h2 : CaAt w1 B C2 sz [] D2 rv2 r2 (.slice none 0 0) K2 (.slice none 0 0) F2 M2 Dm2) :
    CPost w B C sz kb [] (.tuple #[]) (.returned (.tuple #[])) (((((w1.setCell ⟨C, 0, none⟩ (.int .i64 (sz : Int))).setCell ⟨C, 1, none⟩ (.pointer (some ⟨D2, 0, none⟩))).setCell ⟨C, 2, none⟩ (.slice none 0 0)).setCell ⟨C, 3, none⟩ (.slice none 0 0)).setCell ⟨C, 4, none⟩ (.map (some M2))) := by
  have hb := hb0.below hb1 hb0.lt
  have o : Only (fun g => g = C) w1 (((((w1.setCell ⟨C, 0, none⟩ (.int .i64 (sz : Int))).setCell ⟨C, 1, none⟩ (.pointer (some ⟨D2, 0, none⟩))).setCell ⟨C, 2, none⟩ (.slice none 0 0)).setCell ⟨C, 3, none⟩ (.slice none 0 0)).setCell ⟨C, 4, none⟩ (.map (some M2))) :=
    (((((Only.refl (fun g => g = C) w1).setCell_ (p := ⟨C, 0, none⟩) (.inl rfl) _).setCell_ (p := ⟨C, 1, none⟩) (.inl rfl) _).setCell_ (p := ⟨C, 2, none⟩) (.inl rfl) _).setCell_ (p := ⟨C, 3, none⟩) (.inl rfl) _).setCell_ (p := ⟨C, 4, none⟩) (.inl rfl) _
  have hbb := ((((hb.set_ 0 (.int .i64 (sz : Int))).set_ 1 (.pointer (some ⟨D2, 0, none⟩))).set_ 2 (.slice none 0 0)).set_ 3 (.slice none 0 0)).set_ 4 (.map (some M2))
  have hl : Lis (((((w1.setCell ⟨C, 0, none⟩ (.int .i64 (sz : Int))).setCell ⟨C, 1, none⟩ (.pointer (some ⟨D2, 0, none⟩))).setCell ⟨C, 2, none⟩ (.slice none 0 0)).setCell ⟨C, 3, none⟩ (.slice none 0 0)).setCell ⟨C, 4, none⟩ (.map (some M2))) B D2 rv2 r2 := h2.lis.only o (fun g h1 e => by
    obtain ⟨c0, hl, _⟩ := h2.lis
    rcases h1 with h5 | h5
    · exact Blk.ne_ hb hl.blk (by decide) (e.symm.trans h5)
    · exact own_blk_ne hl.row hb (by decide) (h5.trans (congrArg some e)))
  have hm := map_only h2.map o (fun e => by
    obtain ⟨es, c, hM⟩ := map_blk h2.map
    rw [e] at hM
    unfold Blk at hb
    rw [hb] at hM
    cases hM)
  refine ⟨rfl, (Only.of_below (CFoot w B kb) hb1).trans o (fun g hg => .inl ⟨hg ▸ hB, .inr (hg ▸ Kin.of_blk hb0 (by simp))⟩), none, .inr (fun g hg => by cases hg), D2, rv2, r2, .slice none 0 0, K2, .slice none 0 0, F2, M2, Dm2, [], ⟨hB, hbb, hl, owns_only h2.ks o (fun g hg => by cases hg), owns_only h2.fr o (fun g hg => by cases hg), h2.mg, hm, h2.inv, h2.el, h2.us, h2.uef, h2.sz, h2.mp⟩, rfl, rfl⟩
theorem clamp_of (sz : Nat) (h : sz ≤ 1024) : clampC (sz : Int) = sz := by unfold clampC; omega
set_option maxRecDepth 100000 in
theorem creset_any (w : World) (B C sz : Nat) (L : List Ky) (kb : Option Nat) (h : CacL w B C sz L kb) (hB : B ≤ w.heap.size) :
    Calls Try.prog 21 #[.pointer (some ⟨C, 0, none⟩)] w (CPost w B C sz kb [] (.tuple #[])) := by
  have hl := h.len
  obtain ⟨D, rv, r, kv, K, fv, F, M, Dm, T, hc, rfl, rfl⟩ := h
  obtain ⟨_, hl2⟩ := hl
  have x0 : w.cell? ⟨C, 0, none⟩ = some (.int .i64 (sz : Int)) := hc.blk.cell 0
  have HN := Lib.hid (cnew_any w B hB (sz : Int) ⟨by omega, by omega⟩)
  have HC := Lib.hid hc
  clear hc
  go_enter Try.func21, Try.ntmps21
  go_wp2_with fail
  refine HN.out.mono ?_
  rintro e w1 ⟨C2, rfl, hb1, ⟨D2, rv2, r2, K2, F2, M2, Dm2, h2⟩, hC2⟩
  rw [clamp_of sz hl2] at h2
  have y0 : w1.cell? ⟨C2, 0, none⟩ = some (.int .i64 (sz : Int)) := h2.blk.cell 0
  have y1 : w1.cell? ⟨C2, 1, none⟩ = some (.pointer (some ⟨D2, 0, none⟩)) := h2.blk.cell 1
  have y2 : w1.cell? ⟨C2, 2, none⟩ = some (.slice none 0 0) := h2.blk.cell 2
  have y3 : w1.cell? ⟨C2, 3, none⟩ = some (.slice none 0 0) := h2.blk.cell 3
  have y4 : w1.cell? ⟨C2, 4, none⟩ = some (.map (some M2)) := h2.blk.cell 4
  have hb := HC.out.blk.below hb1 HC.out.blk.lt
  have z0 := hb.cell 0
  have z1 := hb.cell 1
  have z2 := hb.cell 2
  have z3 := hb.cell 3
  have z4 := hb.cell 4
  have f0 := hb.frozen 0
  have f1 := hb.frozen 1
  have f2 := hb.frozen 2
  have f3 := hb.frozen 3
  have f4 := hb.frozen 4
  simp at z0 z1 z2 z3 z4
  have hCC : C ≠ C2 := by have := HC.out.blk.lt; omega
  have H2 := Lib.hid h2
  have HB1 := Lib.hid hb1
  have HB := Lib.hid hb
  clear h2 hb1 hb x0
  go_wp2_with fail
  go_end0
  exact creset_end HC.out.ge HC.out.blk HB1.out H2.out

/-! ### a nil cache -/
set_option maxRecDepth 100000 in
attribute [local go_sem ↓] wp_load_k in
theorem npush_any (w : World) (k : Ky) : Calls Try.prog 12 #[.pointer none, keyV k] w fun e w' => e = .returned (.bool true) ∧ Below w.heap.size w w' := by
  go_enter Try.func12, Try.ntmps12
  go_wp2_with fail
  go_ret
  exact ⟨rfl, (Below.refl _ _).alloc (Nat.le_refl _) _⟩
theorem nhas_any (w : World) (k : Ky) : Calls Try.prog 17 #[.pointer none, keyV k] w fun e w' => e = .returned (.bool false) ∧ Below w.heap.size w w' := by
  go_enter Try.func17, Try.ntmps17
  go_wp2_with fail
  go_ret
  exact ⟨rfl, (Below.refl _ _).alloc (Nat.le_refl _) _⟩
set_option maxRecDepth 100000 in
attribute [local go_sem ↓] wp_load_k in
theorem nremove_any (w : World) (k : Ky) : Calls Try.prog 20 #[.pointer none, keyV k] w fun e w' => e = .returned (.bool false) ∧ Below w.heap.size w w' := by
  obtain ⟨cx, hcx⟩ : ∃ cx, (bytesOf 32 k).toArray = cx := ⟨_, rfl⟩
  show Calls _ _ #[_, .agg (bytesOf 32 k).toArray] _ _
  rw [hcx]
  have HCX := Lib.hid hcx
  clear hcx
  go_enter Try.func20, Try.ntmps20
  go_upto_region 1 with (fail)
  generalize hwa : World.alloc w _ = wa
  have hb0 : Below w.heap.size w wa := by rw [← hwa]; exact (Below.refl _ _).alloc (Nat.le_refl _) _
  have hk3 : Blk wa w.heap.size 30 (bytesOf 32 k).toArray := by rw [← hwa, HCX.out]; exact Blk.new w _ _
  have HB0 := Lib.hid hb0
  have q1 := keyOk_mk (blk_key hk3)
  have q2 := loadK_eq (blk_key hk3)
  have hz := hb0.size
  clear hwa hb0 hk3
  go_wp2_with fail
  refine (nhas_any wa k).mono ?_
  rintro e w1 ⟨rfl, hb1⟩
  have HB1 := Lib.hid (HB0.out.trans (hb1.mono hz))
  clear hb1
  go_wp2_with fail
  go_ret
  exact ⟨rfl, HB1.out⟩
theorem nkeys_any (w : World) : Calls Try.prog 16 #[.pointer none] w fun e w' => e = .returned (.slice none 0 0) ∧ w = w' := by
  go_enter Try.func16, Try.ntmps16
  go_wp2_with fail
  go_ret
  exact ⟨rfl, rfl⟩
theorem nlen_any (w : World) : Calls Try.prog 14 #[.pointer none] w fun e w' => e = .returned (.int .i64 0) ∧ w = w' := by
  go_enter Try.func14, Try.ntmps14
  go_wp2_with fail
  go_ret
  exact ⟨rfl, rfl⟩
theorem nreset_any (w : World) : Calls Try.prog 21 #[.pointer none] w fun e w' => e = .returned (.tuple #[]) ∧ w = w' := by
  go_enter Try.func21, Try.ntmps21
  go_wp2_with fail
  go_end0
  exact ⟨rfl, rfl⟩
end Go.Proofs.Ytegdchlbmjokmaa
