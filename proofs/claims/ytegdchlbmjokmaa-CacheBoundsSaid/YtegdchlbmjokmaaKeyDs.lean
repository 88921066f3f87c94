/- Distinct, of the program and of the reference. -/
import Derived.Test.YtegdchlbmjokmaaKeyIdx
namespace Go.Proofs.Ytegdchlbmjokmaa
open Go.RowKit
set_option linter.unusedVariables false
set_option linter.unusedSimpArgs false

def k0 : Ky := fun _ => 0
/-- the first n keys differ -/
def distUp (ps : List Ky) : Nat → Bool
  | 0 => true
  | n + 1 => distUp ps n && !hasK (ps.take n) (ps.getD n k0)
def distK (ps : List Ky) : Bool := distUp ps ps.length
/-- how many different ones are among the first n -/
def cntUp (ps : List Ky) : Nat → Nat
  | 0 => 0
  | n + 1 => if hasK (ps.take n) (ps.getD n k0) = true then cntUp ps n else cntUp ps n + 1
theorem cntUp_le (ps : List Ky) : ∀ n, cntUp ps n ≤ n
  | 0 => Nat.le_refl _
  | n + 1 => by have := cntUp_le ps n; unfold cntUp; split <;> omega
theorem cntUp_eq (ps : List Ky) : ∀ n, decide (cntUp ps n = n) = distUp ps n
  | 0 => rfl
  | n + 1 => by
    have ih := cntUp_eq ps n
    have hl := cntUp_le ps n
    unfold cntUp distUp
    rw [← ih]
    cases hasK (ps.take n) (ps.getD n k0) with
    | true => simp; omega
    | false => simp
theorem distUp_false (ps : List Ky) : ∀ {n m : Nat}, n ≤ m → distUp ps n = false → distUp ps m = false
  | n, 0, h, hf => by obtain rfl : n = 0 := by omega
                      exact hf
  | n, m + 1, h, hf => by
    rcases Nat.lt_or_ge n (m + 1) with h1 | h1
    · unfold distUp
      rw [distUp_false ps (n := n) (m := m) (by omega) hf]; rfl
    · obtain rfl : n = m + 1 := by omega
      exact hf
theorem hasK_snoc (ps : List Ky) (x k : Ky) : hasK (ps ++ [x]) k = (hasK ps k || keyEq x k) := by
  unfold hasK; rw [List.any_append]; simp
theorem take_snoc {ps : List Ky} {n : Nat} {x : Ky} (h : ps[n]? = some x) : ps.take (n + 1) = ps.take n ++ [x] := by
  obtain ⟨hlt, e⟩ := List.getElem?_eq_some_iff.1 h
  rw [List.take_succ_eq_append_getElem hlt, e]
theorem getD_of {ps : List Ky} {n : Nat} {x : Ky} (h : ps[n]? = some x) : ps.getD n k0 = x := by rw [List.getD_eq_getElem?_getD, h]; rfl

set_option maxRecDepth 100000 in
set_option maxHeartbeats 4000000 in
attribute [local go_sem ↓] wp_load_k in
theorem rdistinct_any (w : World) (A : Option Addr) (m c : Nat) (ps : List Ky) (h : KeysAt w A m c ps) :
    Calls Try.prog 15 #[.slice A m c] w fun e w' => e = .returned (.bool (distK ps)) ∧ Below w.heap.size w w' := by
  have hmc : m ≤ 9223372036854775807 := Nat.le_trans h.2.1 h.2.2.1
  have hmc2 : m ≤ c := h.2.1
  have hcc : c ≤ 9223372036854775807 := h.2.2.1
  have HK := Lib.hid h
  have hd : distUp ps m = distK ps := by unfold distK; rw [h.1]
  obtain ⟨R, hR⟩ : ∃ R, distK ps = R := ⟨_, rfl⟩
  rw [hR] at hd ⊢
  have HD := Lib.hid hd
  clear h hR hd
  go_enter Try.func15, Try.ntmps15
  go_wp2_with fail
  go_loopw [7] (fun i wr => ∃ n : Nat, n ≤ m ∧ i = .int .i64 (n : Int) ∧ Below w.heap.size w wr ∧ distUp ps n = true) (fun i _ => m - (intOf i).toNat)
  case atStart => exact ⟨0, by omega, rfl, Below.refl _ _, rfl⟩
  case round =>
    obtain ⟨n, hn, rfl, hbr, hdn⟩ := hrel
    have HBR := Lib.hid hbr
    have HDN := Lib.hid hdn
    have hzr := hbr.size
    clear hbr hdn
    rcases Nat.lt_or_ge n m with hlt | hge
    · have hlt' : (n : Int) < m := by omega
      have hn0 : (0 : Int) ≤ n := by omega
      have hnc : (n : Int) ≤ c := by omega
      have hc0 : ¬ c = 0 := by omega
      obtain ⟨g, o, hA, hat⟩ := HK.out.at_
      obtain rfl := hA (by omega)
      obtain ⟨kk, hkk, hcell⟩ := hat n hlt
      have hc2 : ∀ j u, (bytesOf 32 kk)[j]? = some u → wr.cell? ((⟨g, o + n * 32, none⟩ : Addr).add j) = some u := fun j u hu => (HBR.out.cell (p := (⟨g, o + n * 32, none⟩ : Addr).add j) (World.block_lt_of_cell? w _ (hcell j u hu))).trans (hcell j u hu)
      have HKK := Lib.hid hkk
      have q1 := keyOk_mk hc2
      have q2 := loadK_eq hc2
      clear hA hat hkk hcell hc2
      go_wp2_with (refine wpList_store_rowTo rfl 30 (.tmp 4) (.tmp 11) rfl rfl wr.heap.size (bytesOf 32 kk).toArray rfl rfl _ _ (heap_alloc_new _ _) (by rw [keyV_size]; kernel_rfl) (by rw [keyV_size]; kernel_rfl) (keyV_one _) ?_
                   generalize hwc : World.setRow _ _ _ = wc
                   have hkc := blk_key (k := kk) (g := wr.heap.size) (W := wc.drew) (by rw [← hwc]; exact (setRow_same _ _ _ _ _ (heap_alloc_new _ _)))
                   have hbc : Below w.heap.size w wc := by rw [← hwc]; exact below_setRow (HBR.out.alloc hzr _) hzr _
                   have HBC := Lib.hid hbc
                   have r1 := keyOk_mk hkc
                   have r2 := loadK_eq hkc
                   clear hwc hkc hbc)
      have HTK : Hid (KeysAt wc.drew (some ⟨g, o, none⟩) n c (ps.take n)) := (HK.out.take_ (by omega)).below (below_drewN HBC.out 1)
      obtain ⟨b, hb⟩ : ∃ b, hasK (ps.take n) kk = b := ⟨_, rfl⟩
      have HH : Hid (Calls Try.prog 24 #[.slice (some ⟨g, o, none⟩) n c, keyV kk] wc.drew fun e w' => e = .returned (.bool b) ∧ Below wc.heap.size wc.drew w') := by rw [← hb]; exact rhas_any wc.drew _ n c _ kk HTK.out
      have HBB := Lib.hid hb
      clear hb
      go_region_law (go_simp; go_at_call 24; (with_reducible refine HH.out.mono ?_); rintro e w5 ⟨rfl, hb5⟩)
      all_goals
        have HB5 := Lib.hid ((below_drewN HBC.out 1).trans (hb5.mono HBC.out.size))
        clear hb5
        go_wp2_with fail
      all_goals
        first
        | (have hbt : b = true := by assumption
           have hf : R = false := by
             rw [← HD.out]
             refine distUp_false ps (n := n + 1) (by omega) ?_
             unfold distUp
             rw [getD_of HKK.out, HBB.out, hbt, Bool.not_true, Bool.and_false]
           go_ret
           exact ⟨by rw [hf]; rfl, HB5.out⟩)
        | (have hbf : b = false := by first | assumption | simpa using ‹¬ _›
           go_roundw
           case rel =>
             refine ⟨n + 1, by omega, by go_num, HB5.out, ?_⟩
             unfold distUp
             rw [HDN.out, getD_of HKK.out, HBB.out, hbf]; rfl
           case measure => simp [intOf]; omega)
    · have hge' : ¬ (n : Int) < m := by omega
      obtain rfl : n = m := by omega
      have hr : R = true := by rw [← HD.out]; exact HDN.out
      subst hr
      go_wp2_with fail
      go_ret
      exact ⟨rfl, HBR.out⟩

/-- block b is a set of the first n keys -/
def SetAt (W : World) (b n : Nat) (ps : List Ky) : Prop :=
  ∃ D : DataW Unit, W.ownsMap Try.prog 30 unitElem b n D ∧ (∀ k, Maps.has D (klit k) = hasK (ps.take n) k) ∧ Maps.size D = cntUp ps n
theorem SetAt.kept {W W' : World} {b n : Nat} {ps : List Ky} (h : SetAt W b n ps) (hb : Below W.heap.size W W') : SetAt W' b n ps := by
  obtain ⟨D, h1, h2, h3⟩ := h
  exact ⟨D, h1.kept (below_grownBy hb none) (by simp), h2, h3⟩
theorem set_put {D : DataW Unit} {ps : List Ky} {n : Nat} {kk : Ky} (hm : Maps.IsMap D) (ht : Maps.Tidy D) (hkk : ps[n]? = some kk) (h2 : ∀ k, Maps.has D (klit k) = hasK (ps.take n) k) (h3 : Maps.size D = cntUp ps n) :
    (∀ k, Maps.has (D.put (klit kk) (.agg [])) (klit k) = hasK (ps.take (n + 1)) k) ∧ Maps.size (D.put (klit kk) (.agg [])) = cntUp ps (n + 1) := by
  refine ⟨fun k => ?_, ?_⟩
  · rw [take_snoc hkk, hasK_snoc, ← h2 k]
    cases he : keyEq kk k with
    | true => rw [← klit_congr he, Maps.has_put_same hm (klit_key kk), Bool.or_true]
    | false => rw [Maps.has_put_other (Ne.symm (klit_ne he)), Bool.or_false]
  · rw [Maps.size_put ht, h2 kk, h3]
    show _ = if hasK (ps.take n) (ps.getD n k0) = true then cntUp ps n else cntUp ps n + 1
    rw [getD_of hkk]

end Go.Proofs.Ytegdchlbmjokmaa
