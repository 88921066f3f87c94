/- The statements' example; a nil list; LinkedNil. -/
import Derived.Test.YtlkpdmblhejnhaaLnkR
namespace Go.Proofs.Ytlkpdmblhejnhaa
open Go.RowKit
set_option linter.unusedVariables false
open Lnk

/-- v reads as these numbers -/
def IntsR (w : World) (v : Value) (l : List Int) : Prop := ∃ A c g o, v = .slice A l.length c ∧ (0 < l.length → A = some ⟨g, o, none⟩) ∧ ∀ (j : Nat) (x : Int), l[j]? = some x → w.cell? ⟨g, o + j, none⟩ = some (.int .i64 x)
theorem OwnInts.reads {w : World} {base : Nat} {v : Value} {l : List Int} (h : OwnInts w base v l) : IntsR w v l := by
  obtain ⟨ao, g, cap, h1, h2, h3, h4, h5⟩ := owns_cells h
  refine ⟨ao, cap, g, 0, h1, h2, fun j x hj => h5 j _ ?_⟩
  rw [List.getElem?_map, hj]; rfl
theorem OwnInts.below {w w' : World} {base : Nat} {v : Value} {l : List Int} (h : OwnInts w base v l) (hb : Below w.heap.size w w') : OwnInts w' base v l :=
  owns_only h (Only.of_below (fun _ => False) hb) (fun _ _ h => h)
theorem drewN_add (w : World) (a b : Nat) : (w.drewN a).drewN b = w.drewN (a + b) := by
  unfold World.drewN; simp [Nat.add_assoc]

set_option maxHeartbeats 1000000 in
theorem sameInts_any (w : World) (v1 v2 : Value) (l : List Int) (h1 : IntsR w v1 l) (h2 : IntsR w v2 l) (hl : l.length ≤ 1099511627776) :
    Calls Try.prog 11 #[v1, v2] w fun e w' => e = .returned (.bool true) ∧ ∃ k, w' = w.drewN k := by
  obtain ⟨A1, c1, g1, o1, rfl, hA1, hc1⟩ := h1
  obtain ⟨A2, c2, g2, o2, rfl, hA2, hc2⟩ := h2
  have t0 : ((l.length : Int) != (l.length : Int)) = false := by simp
  have HC1 := Lib.hid hc1
  have HC2 := Lib.hid hc2
  have HA1 := Lib.hid hA1
  have HA2 := Lib.hid hA2
  clear hc1 hc2 hA1 hA2
  go_enter Try.func11, Try.ntmps11
  go_wp2
  go_loopw [13] (fun i wr => ∃ k q : Nat, k ≤ l.length ∧ i = .int .i64 (k : Int) ∧ wr = w.drewN q) (fun i _ => l.length - (intOf i).toNat)
  case atStart => exact ⟨0, 0, by omega, rfl, rfl⟩
  case round =>
    obtain ⟨k, q, hk, rfl, rfl⟩ := hrel
    rcases Nat.lt_or_ge k l.length with hlt | hge
    · obtain ⟨x, hx⟩ : ∃ x, l[k]? = some x := ⟨l[k]'hlt, List.getElem?_eq_getElem hlt⟩
      obtain rfl := HA1.out (by omega)
      obtain rfl := HA2.out (by omega)
      have d1 := HC1.out k x hx
      have d2 := HC2.out k x hx
      have hlt' : (k : Int) < l.length := by omega
      have hk0 : (0 : Int) ≤ k := by omega
      have t1 : (x != x) = false := by simp
      clear hx
      go_wp2_with fail
      go_quiet (fail)
      go_wp2_with fail
      go_roundw
      case rel => exact ⟨k + 1, _, by omega, by go_num, rfl⟩
      case measure => simp [intOf]; omega
    · have hlt' : ¬ ((k : Int) < l.length) := by omega
      go_wp2
      go_ret
      exact ⟨rfl, _, rfl⟩

theorem intsR_two (w : World) (a b : Int) (t : TypeId) (g : Nat) (hg : g = w.heap.size) : IntsR (w.alloc (.cells #[.int .i64 a, .int .i64 b] t)) (.slice (some ⟨g, 0, none⟩) 2 2) [a, b] := by
  subst hg
  refine ⟨_, 2, w.heap.size, 0, rfl, fun _ => rfl, fun j x hj => ?_⟩
  rw [Nat.zero_add, World.cell?_alloc_at _ _ _ _ rfl]
  match j, hj with
  | 0, hj => simp at hj ⊢; exact hj
  | 1, hj => simp at hj ⊢; exact hj
  | j + 2, hj => simp at hj
theorem IntsR.below {w w' : World} {B : Nat} {v : Value} {l : List Int} (h : IntsR w v l) (hB : w.heap.size = B) (hb : Below B w w') : IntsR w' v l := by
  obtain ⟨A, c, g, o, h1, h2, h3⟩ := h
  refine ⟨A, c, g, o, h1, h2, fun j x hj => ?_⟩
  have h0 := h3 j x hj
  exact (hb.cell (p := ⟨g, o + j, none⟩) (by rw [← hB]; exact World.block_lt_of_cell? w _ h0)).trans h0

def k1 : R := ⟨[(0, 7)], [], 1⟩
def k2 : R := ⟨[(0, 7), (1, 8)], [], 2⟩
def k3 : R := ⟨[(1, 8)], [0], 2⟩
def k4 : R := ⟨[(0, 9), (1, 8)], [], 2⟩
set_option maxHeartbeats 2000000 in
theorem known_any (w : World) : Calls Try.prog 9 #[] w fun e w' => e = .returned (.bool true) ∧ Below w.heap.size w w' := by
  go_enter Try.func9, Try.ntmps9
  go_wp2_with fail
  refine (lnewR_any w w.heap.size (Nat.le_refl _)).mono ?_
  rintro e w1 ⟨rfl, hb1, hz1, h1⟩
  have hz : w.heap.size ≤ w1.heap.size := hb1.size
  have H1 := Lib.hid h1
  have HB1 := Lib.hid hb1
  clear h1 hb1 hz1
  go_wp2_with fail
  refine (lpb_any w1 w.heap.size w.heap.size _ emptyR 7 H1.out hz (by decide) (by decide)).mono ?_
  rintro e w2 ⟨rfl, ho2, rv2, h2⟩
  have hz2 : w.heap.size ≤ w2.heap.size := Nat.le_trans hz ho2.size
  have HB2 := Lib.hid (ho2.below_trans HB1.out hz H1.out.ge)
  have H2 : Hid (Lis w2 w.heap.size w.heap.size rv2 k1) := h2
  clear h2 ho2
  rw [show (slotR emptyR : Int) = 0 from rfl]
  go_wp2_with fail
  refine (lpb_any w2 w.heap.size w.heap.size _ k1 8 H2.out hz2 (by decide) (by decide)).mono ?_
  rintro e w3 ⟨rfl, ho3, rv3, h3⟩
  have hz3 : w.heap.size ≤ w3.heap.size := Nat.le_trans hz2 ho3.size
  have HB3 := Lib.hid (ho3.below_trans HB2.out hz2 H2.out.ge)
  have H3 : Hid (Lis w3 w.heap.size w.heap.size rv3 k2) := h3
  clear h3 ho3
  rw [show (slotR k1 : Int) = 1 from rfl]
  go_wp2_with fail
  refine (lrem_any w3 w.heap.size w.heap.size _ k2 0 H3.out hz3 (by decide)).mono ?_
  rintro e w4 ⟨rfl, ho4, rv4, h4⟩
  have hz4 : w.heap.size ≤ w4.heap.size := Nat.le_trans hz3 ho4.size
  have HB4 := Lib.hid (ho4.below_trans HB3.out hz3 H3.out.ge)
  have H4 : Hid (Lis w4 w.heap.size w.heap.size rv4 k3) := h4
  clear h4 ho4
  rw [show (placeR k2.E 0).isSome = true from by decide]
  go_wp2_with fail
  refine (lpf_any w4 w.heap.size w.heap.size _ k3 9 H4.out hz4 (by decide) (by decide)).mono ?_
  rintro e w5 ⟨rfl, ho5, rv5, h5⟩
  have hz5 : w.heap.size ≤ w5.heap.size := Nat.le_trans hz4 ho5.size
  have HB5 := Lib.hid (ho5.below_trans HB4.out hz4 H4.out.ge)
  have H5 : Hid (Lis w5 w.heap.size w.heap.size rv5 k4) := h5
  clear h5 ho5
  rw [show (slotR k3 : Int) = 0 from rfl]
  go_wp2_with fail
  refine (lval_any w5 w.heap.size w.heap.size _ k4 1 H5.out).mono ?_
  rintro e w6 ⟨rfl, rfl⟩
  rw [show (placeR k4.E 1).isSome = true from by decide, show valueR k4.E 1 = 8 from by decide]
  go_wp2_with fail
  refine (lvals_any w5 w.heap.size w.heap.size _ k4 H5.out hz5 (by decide)).mono ?_
  rintro e w6 ⟨v6, rfl, hb6, ho6⟩
  have H6 := Lib.hid (H5.out.below hb6)
  have hz6 : w.heap.size ≤ w6.heap.size := Nat.le_trans hz5 hb6.size
  have HB6 := Lib.hid (HB5.out.trans (hb6.mono hz5))
  have HO6 := Lib.hid (OwnInts.reads ho6)
  clear hb6 ho6
  go_wp2_with fail
  refine (sameInts_any _ v6 _ [9, 8] (HO6.out.below rfl ((Below.refl _ _).alloc (Nat.le_refl _) _)) (intsR_two _ _ _ _ _ rfl) (by decide)).mono ?_
  rintro e w7 ⟨rfl, q, rfl⟩
  have H7 : Hid (Lis ((w6.alloc (.cells #[.int .i64 9, .int .i64 8] 3)).drewN q) w.heap.size w.heap.size rv5 k4) := (H6.out.below ((Below.refl _ _).alloc (Nat.le_refl _) (.cells #[.int .i64 9, .int .i64 8] 3))).only ((Only.refl (fun _ => False) _).drewN_ q) (fun _ _ h => h)
  go_wp2_with fail
  refine (lfst_any _ w.heap.size w.heap.size _ k4 H7.out).mono ?_
  rintro e w8 ⟨rfl, rfl⟩
  rw [show oi (slotAt k4.E 0) = 0 from rfl]
  go_wp2_with fail
  refine (lnxt_any _ w.heap.size w.heap.size _ k4 0 H7.out).mono ?_
  rintro e w8 ⟨rfl, rfl⟩
  rw [show oi (behindR k4.E 0) = 1 from by decide]
  go_wp2_with fail
  refine (lnxt_any _ w.heap.size w.heap.size _ k4 1 H7.out).mono ?_
  rintro e w8 ⟨rfl, rfl⟩
  rw [show oi (behindR k4.E 1) = -1 from by decide]
  go_wp2_with fail
  refine (llenR_any _ w.heap.size w.heap.size _ k4 H7.out).mono ?_
  rintro e w8 ⟨rfl, rfl⟩
  rw [show (k4.E.length : Int) = 2 from rfl]
  go_wp2_with fail
  go_ret
  refine ⟨rfl, ?_⟩
  have h := HB6.out.alloc hz6 (.cells #[.int .i64 9, .int .i64 8] 3)
  exact ⟨h.os, h.tape, h.output, h.size, h.block⟩
end Go.Proofs.Ytlkpdmblhejnhaa
