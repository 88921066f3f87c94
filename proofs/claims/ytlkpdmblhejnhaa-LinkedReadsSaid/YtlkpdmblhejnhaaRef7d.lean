/- The reference's list: without, Remove, MoveToBack. -/
import Derived.Test.YtlkpdmblhejnhaaRef7c
namespace Go.Proofs.Ytlkpdmblhejnhaa
open Go.RowKit
set_option linter.unusedVariables false
open Lnk

def WithoutPost (w : World) (l : List (Nat × Int)) (e : Ending) (w' : World) : Prop := ∃ A c, e = .returned (.slice A l.length c) ∧ Below w.heap.size w w' ∧ w'.ownsRow w.heap.size 47 2 (.slice A l.length c) l.length (elemsOf l)

set_option maxHeartbeats 1000000 in
theorem rwithout_any (w : World) (B g cap : Nat) (E : List (Nat × Int)) (i : Nat) (h : w.ownsRow B 47 2 (.slice (some ⟨g, 0, none⟩) E.length cap) E.length (elemsOf E)) (hi : i < E.length) (hm : E.length ≤ 1048576) (hcap : E.length ≤ cap) :
    Calls Try.prog 39 #[.slice (some ⟨g, 0, none⟩) E.length cap, .int .i64 (i : Int)] w (WithoutPost w (without E i)) := by
  obtain ⟨i0, hi0, hz0, hz1, hz2⟩ := info_parts elem_info
  have hr := Reads.of_own h
  have hl := length_without E i hi
  have t1 : (i : Int) ≤ cap := by omega
  have t2 : (i : Int) + 1 ≤ E.length := by omega
  have t3 : (E.length : Int) ≤ cap := by omega
  have q1 : IntKind.i64.wrap ((i : Int) + 1) = (i : Int) + 1 := IntWalk.i64_in _ (by omega)
  have p0 : (0 : Int) ≤ (i : Int) + 1 := by omega
  have p1 : ((i : Int) + 1).toNat = i + 1 := by omega
  have HR := Lib.hid hr
  have HL := Lib.hid hl
  clear h hr hl
  have hR1 : Reads (w.alloc (.cells #[] 47)).drew w.heap.size 2 (some ⟨g, 0, none⟩) i (elemsOf (E.take i)) := by
    have h0 := HR.out.alloc (Nat.le_refl _) (.cells #[] 47)
    refine ⟨by rw [elems_len, List.length_take]; omega, fun hp => ?_⟩
    obtain ⟨ad, h1, h2, h3⟩ := h0.2 (by omega)
    refine ⟨ad, h1, h2, fun j u hu => h3 j u ?_⟩
    rw [← elems_take, List.getElem?_take] at hu
    split at hu
    · exact hu
    · cases hu
  have hown : (w.alloc (.cells #[] 47)).drew.ownsRow w.heap.size 47 2 (.slice (some ⟨w.heap.size, 0, none⟩) 0 0) 0 [] := lit0 w _ 2
  have hbl : Below w.heap.size w (w.alloc (.cells #[] 47)).drew := belowDrew2 ((Below.refl _ _).alloc (Nat.le_refl _) _)
  have HR1 := Lib.hid hR1
  have HO := Lib.hid hown
  have HBL := Lib.hid hbl
  clear hR1 hown hbl
  have hi1 : i ≤ 1048576 := by omega
  by_cases hc : cap = i + 1
  · have hEl : E.length = i + 1 := by omega
    rw [hEl]
    have hR2 : Hid (elemsOf (E.drop (i + 1)) = []) := by
      show _ = _
      rw [List.drop_of_length_le (by omega)]; rfl
    have HEL := Lib.hid hEl
    subst hc
    clear hEl hi hcap t2 t3
    have t2 : (i : Int) < (i : Int) + 1 := by omega
    have t4 : (i : Int) ≤ (i : Int) + 1 := by omega
    go_enter Try.func39, Try.ntmps39
    go_wp2_with fail
    go_region_held3 (fun w' => True) (trivial) (first
      | ((refine step_append_any _ (by rfl) (.tmp 5) (.tmp 8) _ (by rfl) w.heap.size 47 i0 _ 2 16 Try.underlying26 hi0 hz0 hz1 hz2 rfl (by omega) (.slice (some ⟨w.heap.size, 0, none⟩) 0 0) 0 [] (by rfl) HO.out w.heap.size (some ⟨g, 0, none⟩) i (i + 1) (elemsOf (E.take i)) (by rfl) HR1.out (elems_one _) (by unfold maxLen; omega) (by omega) HBL.out.size ?_; intro v1 w1 ho1 hg1 hat1; rw [Nat.zero_add, List.nil_append] at ho1; obtain ⟨A1, c1, rfl⟩ := owns_form ho1; have hb1 : Below w.heap.size w w1 := HBL.out.grown hg1 HBL.out.size (fun g e => by have := Option.some.inj (show some w.heap.size = some g from e); omega); have HB1 := Lib.hid hb1; have HO1 := Lib.hid ho1; have hz1' := hb1.size; clear hb1 ho1 hg1 hat1))
      | ((refine step_append_any _ (by rfl) (.tmp 9) (.tmp 13) _ (by rfl) w.heap.size 47 i0 _ 2 16 Try.underlying26 hi0 hz0 hz1 hz2 rfl (by omega) (.slice A1 i c1) i (elemsOf (E.take i)) (by rfl) HO1.out w.heap.size (some ⟨g, 0, none⟩) 0 0 [] (by rfl) (Reads.none_ (A := some ⟨g, 0, none⟩)) (by simp) (by unfold maxLen; omega) (by omega) hz1' ?_; intro v2 w2 ho2 hg2 hat2; rw [Nat.add_zero, List.append_nil] at ho2; obtain ⟨A2, c2, rfl⟩ := owns_form ho2; have hb2 : Below w.heap.size w w2 := HB1.out.grown hg2 hz1' (fun g e => (HO1.out.lt g e).1); have HB2 := Lib.hid hb2; have HO2 := Lib.hid ho2; clear hb2 ho2 hg2 hat2)))
    go_wp2
    go_ret
    have e : without E i = E.take i := by unfold without; rw [List.drop_of_length_le (by have := HEL.out; omega), List.append_nil]
    have el : (without E i).length = i := by rw [HL.out, HEL.out]; rfl
    unfold WithoutPost
    rw [el, e]
    exact ⟨_, _, rfl, HB2.out, HO2.out⟩
  · have hR2 : ∀ W, Below w.heap.size w W → Reads W w.heap.size 2 (some ⟨g, (i + 1) * 2, none⟩) (E.length - (i + 1)) (elemsOf (E.drop (i + 1))) := fun W hW => by
      have h0 := (HR.out.below hW).cut (k := i + 1) (cap := cap) (by omega) hcap
      rw [if_neg hc, elems_drop] at h0
      simpa [add_flat] using h0
    have HR2 := Lib.hid hR2
    clear hR2
    go_enter Try.func39, Try.ntmps39
    go_wp2_with fail
    go_region_held3 (fun w' => True) (trivial) (first
      | ((refine step_append_any _ (by rfl) (.tmp 5) (.tmp 8) _ (by rfl) w.heap.size 47 i0 _ 2 16 Try.underlying26 hi0 hz0 hz1 hz2 rfl (by omega) (.slice (some ⟨w.heap.size, 0, none⟩) 0 0) 0 [] (by rfl) HO.out w.heap.size (some ⟨g, 0, none⟩) i cap (elemsOf (E.take i)) (by rfl) HR1.out (elems_one _) (by unfold maxLen; omega) (by omega) HBL.out.size ?_; intro v1 w1 ho1 hg1 hat1; rw [Nat.zero_add, List.nil_append] at ho1; obtain ⟨A1, c1, rfl⟩ := owns_form ho1; have hb1 : Below w.heap.size w w1 := HBL.out.grown hg1 HBL.out.size (fun g e => by have := Option.some.inj (show some w.heap.size = some g from e); omega); have HR3 := Lib.hid (HR2.out w1 hb1); have HB1 := Lib.hid hb1; have HO1 := Lib.hid ho1; have hz1' := hb1.size; clear hb1 ho1 hg1 hat1))
      | ((refine step_append_any _ (by rfl) (.tmp 9) (.tmp 13) _ (by rfl) w.heap.size 47 i0 _ 2 16 Try.underlying26 hi0 hz0 hz1 hz2 rfl (by omega) (.slice A1 i c1) i (elemsOf (E.take i)) (by rfl) HO1.out w.heap.size (some ⟨g, (i + 1) * 2, none⟩) (E.length - (i + 1)) (cap - (i + 1)) _ (by rfl) HR3.out (elems_one _) (by unfold maxLen; omega) (by omega) hz1' ?_; intro v2 w2 ho2 hg2 hat2; obtain ⟨A2, c2, rfl⟩ := owns_form ho2; have hb2 : Below w.heap.size w w2 := HB1.out.grown hg2 hz1' (fun g e => (HO1.out.lt g e).1); have HB2 := Lib.hid hb2; have HO2 := Lib.hid ho2; clear hb2 ho2 hg2 hat2)))
    go_wp2
    go_ret
    have el : (without E i).length = i + (E.length - (i + 1)) := by rw [HL.out]; omega
    have e : elemsOf (without E i) = elemsOf (E.take i) ++ elemsOf (E.drop (i + 1)) := by unfold without; rw [elems_append]
    unfold WithoutPost
    rw [el, e]
    exact ⟨_, _, rfl, HB2.out, HO2.out⟩
end Go.Proofs.Ytlkpdmblhejnhaa
