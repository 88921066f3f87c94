/- The first index of a key in a list: Index, Has, Contains. -/
import Derived.Test.YtoamjdjmfhdaeaaKeyL
namespace Go.Proofs.Ytoamjdjmfhdaeaa
open Go.RowKit
set_option linter.unusedVariables false
set_option linter.unusedSimpArgs false
open ShaW Sha

/-- the first index of a key; -1 if it is not there -/
def idxI : List Ky → Ky → Int
  | [], _ => -1
  | p :: ps, k => if keyEq p k = true then 0 else if idxI ps k < 0 then -1 else idxI ps k + 1
/-- a list contains a key -/
def hasK (ps : List Ky) (k : Ky) : Bool := ps.any (fun p => keyEq p k)
theorem idxI_ge : ∀ (ps : List Ky) (k : Ky), -1 ≤ idxI ps k
  | [], _ => Int.le_refl _
  | p :: ps, k => by
    have := idxI_ge ps k
    unfold idxI
    split
    · decide
    · split
      · exact Int.le_refl _
      · omega
theorem idxI_at : ∀ (ps : List Ky) (k : Ky) (n : Nat) (x : Ky), ps[n]? = some x → keyEq x k = true → (∀ j p, j < n → ps[j]? = some p → keyEq p k = false) → idxI ps k = n
  | [], _, _, _, h, _, _ => by simp at h
  | p :: ps, k, 0, x, h, hx, _ => by
    simp at h
    subst h
    unfold idxI
    rw [if_pos hx]; rfl
  | p :: ps, k, n + 1, x, h, hx, hno => by
    have h0 := hno 0 p (by omega) rfl
    have ih := idxI_at ps k n x (by simpa using h) hx (fun j q hj hq => hno (j + 1) q (by omega) (by simpa using hq))
    unfold idxI
    rw [if_neg (by rw [h0]; simp), ih, if_neg (by omega)]
    omega
theorem idxI_none : ∀ (ps : List Ky) (k : Ky), (∀ (j : Nat) (p : Ky), ps[j]? = some p → keyEq p k = false) → idxI ps k = -1
  | [], _, _ => rfl
  | p :: ps, k, hno => by
    have h0 := hno 0 p rfl
    have ih := idxI_none ps k (fun j q hq => hno (j + 1) q (by simpa using hq))
    unfold idxI
    rw [if_neg (by rw [h0]; simp), ih]; rfl
theorem idxI_has : ∀ (ps : List Ky) (k : Ky), decide (0 ≤ idxI ps k) = hasK ps k
  | [], _ => rfl
  | p :: ps, k => by
    have ih := idxI_has ps k
    have hg := idxI_ge ps k
    show _ = (keyEq p k || hasK ps k)
    unfold idxI
    cases hp : keyEq p k with
    | true => rfl
    | false =>
      rw [← ih]
      simp only [Bool.false_eq_true, if_false, Bool.false_or]
      by_cases h : idxI ps k < 0
      · rw [if_pos h, decide_eq_false (by omega), decide_eq_false (by omega)]
      · rw [if_neg h, decide_eq_true (by omega), decide_eq_true (by omega)]

set_option maxRecDepth 100000 in
set_option maxHeartbeats 2000000 in
attribute [local go_sem ↓] wp_load_k in
theorem rindex_any (w : World) (A : Option Addr) (m c : Nat) (ps : List Ky) (k : Ky) (h : KeysAt w A m c ps) :
    Calls Try.prog 32 #[.slice A m c, keyV k] w fun e w' => e = .returned (.int .i64 (idxI ps k)) ∧ Below w.heap.size w w' := by
  have hmc : m ≤ 9223372036854775807 := Nat.le_trans h.2.1 h.2.2.1
  have HK := Lib.hid h
  have HL := Lib.hid h.1
  obtain ⟨R, hR⟩ : ∃ R, idxI ps k = R := ⟨_, rfl⟩
  rw [hR]
  have HRR := Lib.hid hR
  obtain ⟨cx, hcx⟩ : ∃ cx, (bytesOf 32 k).toArray = cx := ⟨_, rfl⟩
  show Calls _ _ #[_, .agg (bytesOf 32 k).toArray] _ _
  rw [hcx]
  have HCX := Lib.hid hcx
  clear h hR hcx
  go_enter Try.func32, Try.ntmps32
  go_wp2_with fail
  generalize hwa : World.alloc w _ = wa
  have hb0 : Below w.heap.size w wa := by rw [← hwa]; exact (Below.refl _ _).alloc (Nat.le_refl _) _
  have hk3 : Blk wa w.heap.size 41 (bytesOf 32 k).toArray := by rw [← hwa, HCX.out]; exact Blk.new w _ _
  have HB0 := Lib.hid hb0
  have HK3 := Lib.hid hk3
  have HKA := Lib.hid (HK.out.below hb0)
  have hz0 := hb0.size
  have hl0 := hk3.lt
  clear hwa hb0 hk3 HK
  go_loopw [9] (fun i wr => ∃ n : Nat, n ≤ m ∧ i = .int .i64 (n : Int) ∧ Below wa.heap.size wa wr ∧ ∀ j p, j < n → ps[j]? = some p → keyEq p k = false) (fun i _ => m - (intOf i).toNat)
  case atStart => exact ⟨0, by omega, rfl, Below.refl _ _, fun j p hj => by omega⟩
  case round =>
    obtain ⟨n, hn, rfl, hbr, hno⟩ := hrel
    have HBR := Lib.hid hbr
    have HNO := Lib.hid hno
    have hzr := hbr.size
    clear hbr hno
    rcases Nat.lt_or_ge n m with hlt | hge
    · have hlt' : (n : Int) < m := by omega
      have hn0 : (0 : Int) ≤ n := by omega
      obtain ⟨g, o, hA, hat⟩ := HKA.out.at_
      obtain rfl := hA (by omega)
      obtain ⟨kk, hkk, hcell⟩ := hat n hlt
      have hc2 : ∀ j u, (bytesOf 32 kk)[j]? = some u → wr.cell? ((⟨g, o + n * 32, none⟩ : Addr).add j) = some u := fun j u hu => (HBR.out.cell (p := (⟨g, o + n * 32, none⟩ : Addr).add j) (World.block_lt_of_cell? wa _ (hcell j u hu))).trans (hcell j u hu)
      have HKK := Lib.hid hkk
      have q1 := keyOk_mk hc2
      have q2 := loadK_eq hc2
      have hk3 := HK3.out.below HBR.out HK3.out.lt
      have HK3r := Lib.hid hk3
      have heq := fun W => run_keyEq W kk k
      obtain ⟨b, hb⟩ : ∃ b, keyEq kk k = b := ⟨_, rfl⟩
      rw [hb] at heq
      have HBQ := Lib.hid hb
      clear hA hat hkk hcell hc2 hk3 hb
      go_wp2_with (refine wpList_store_rowTo rfl 41 (.tmp 6) (.tmp 13) rfl rfl wr.heap.size (bytesOf 32 kk).toArray rfl rfl _ _ (heap_alloc_new _ _) (by rw [keyV_size]; kernel_rfl) (by rw [keyV_size]; kernel_rfl) (keyV_one _) ?_
                   generalize hwc : World.setRow _ _ _ = wc
                   have hkc := blk_key (k := kk) (g := wr.heap.size) (W := wc) (by rw [← hwc]; exact setRow_same _ _ _ _ _ (heap_alloc_new _ _))
                   have hkd := blk_key (k := k) (g := w.heap.size) (W := wc) (by rw [← hwc]; exact (setRow_other _ _ _ _ (by omega)).trans (HK3r.out.alloc _))
                   have hbc : Below wa.heap.size wa wc := by rw [← hwc]; exact below_setRow (HBR.out.alloc hzr _) hzr _
                   have HBC := Lib.hid hbc
                   have r1 := keyOk_mk hkc
                   have r2 := loadK_eq hkc
                   have r3 := keyOk_mk hkd
                   have r4 := loadK_eq hkd
                   clear hwc hkc hkd hbc)
      all_goals
        first
        | (have hbt : b = true := by assumption
           go_ret
           refine ⟨?_, HB0.out.trans (HBC.out.mono hz0)⟩
           rw [← HRR.out, idxI_at ps k n kk HKK.out (by rw [HBQ.out]; exact hbt) HNO.out]
           rfl)
        | (have hbf : b = false := by first | assumption | simpa using ‹¬ _›
           go_roundw
           case rel =>
             refine ⟨n + 1, by omega, by go_num, HBC.out, fun j p hj hp => ?_⟩
             rcases Nat.lt_or_ge j n with h1 | h1
             · exact HNO.out j p h1 hp
             · obtain rfl : j = n := by omega
               rw [HKK.out] at hp
               injection hp with hp
               subst hp
               rw [HBQ.out]; exact hbf
           case measure => simp [intOf]; omega)
    · have hge' : ¬ (n : Int) < m := by omega
      obtain rfl : n = m := by omega
      have hr : R = -1 := by
        rw [← HRR.out]
        exact idxI_none ps k (fun j p hp => HNO.out j p (by have := (List.getElem?_eq_some_iff.1 hp).1; rw [HL.out] at this; exact this) hp)
      subst hr
      go_wp2_with fail
      go_ret
      exact ⟨rfl, HB0.out.trans (HBR.out.mono hz0)⟩
set_option maxRecDepth 100000 in
set_option maxHeartbeats 2000000 in
attribute [local go_sem ↓] wp_load_k in
theorem rhas_any (w : World) (A : Option Addr) (m c : Nat) (ps : List Ky) (k : Ky) (h : KeysAt w A m c ps) :
    Calls Try.prog 27 #[.slice A m c, keyV k] w fun e w' => e = .returned (.bool (hasK ps k)) ∧ Below w.heap.size w w' := by
  have HK := Lib.hid h
  obtain ⟨R, hR⟩ : ∃ R, hasK ps k = R := ⟨_, rfl⟩
  rw [hR]
  have hfin : decide (0 ≤ idxI ps k) = R := by rw [idxI_has, hR]
  have HRR := Lib.hid hfin
  obtain ⟨cx, hcx⟩ : ∃ cx, (bytesOf 32 k).toArray = cx := ⟨_, rfl⟩
  show Calls _ _ #[_, .agg (bytesOf 32 k).toArray] _ _
  rw [hcx]
  have HCX := Lib.hid hcx
  clear h hR hcx hfin
  go_enter Try.func27, Try.ntmps27
  go_upto_region 1 with (fail)
  generalize hwa : World.alloc w _ = wa
  have hb0 : Below w.heap.size w wa := by rw [← hwa]; exact (Below.refl _ _).alloc (Nat.le_refl _) _
  have hk3 : Blk wa w.heap.size 41 (bytesOf 32 k).toArray := by rw [← hwa, HCX.out]; exact Blk.new w _ _
  have HB0 := Lib.hid hb0
  have HKA := Lib.hid (HK.out.below hb0)
  have q1 := keyOk_mk (blk_key hk3)
  have q2 := loadK_eq (blk_key hk3)
  have hz0 := hb0.size
  clear hwa hb0 hk3 HK
  go_wp2_with fail
  refine (rindex_any wa A m c ps k HKA.out).mono ?_
  rintro e w1 ⟨rfl, hb1⟩
  have HB1 := Lib.hid (HB0.out.trans (hb1.mono hz0))
  clear hb1
  go_wp2_with fail
  go_ret
  exact ⟨by rw [← HRR.out]; rfl, HB1.out⟩
end Go.Proofs.Ytoamjdjmfhdaeaa
