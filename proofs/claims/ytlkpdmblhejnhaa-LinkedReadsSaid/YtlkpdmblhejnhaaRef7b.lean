/- The reference's list: Next, Values, take. -/
import Derived.Test.YtlkpdmblhejnhaaRef7a
import Derived.Deep.RegionHeld3
import Derived.Deep.RegionLaw
namespace Go.Proofs.Ytlkpdmblhejnhaa
open Go.RowKit
set_option linter.unusedVariables false
open Lnk

theorem results_cell_one {P : Program} {fn : Func} {p q : Tmp} {ty : TypeId} (h : fn.results = #[.cell p ty, .tmp q]) (tmps : Array Value) (w : World) (g : Nat) (t : TypeId) (cs : Array Value) (fr : Nat × Nat) (d : TypeDesc)
    (hp : tmps.getD p undef = .pointer (some ⟨g, 0, none⟩)) (hg : w.heap[g]? = some (.cells cs t fr))
    (hu : P.underlying ty = some d) (hd : (match d with | .struct _ | .array _ _ => true | _ => false) = true) (hi : (P.info? ty).map (·.size) = some cs.size) :
    (results fn tmps).run P w = .ok (.tuple #[.agg cs, tmps.getD q undef]) w := by
  have hp' : tmps[p]?.getD undef = .pointer (some ⟨g, 0, none⟩) := by simpa using hp
  simp [results, h, hp', asAddr, run_loadVar_row w g t ty cs fr d hg hu hd hi]

theorem elem_info : (Try.prog.info? 47).map (fun i => (i.zero, i.size, i.bytes)) = some (some (.agg #[.int .i64 0, .int .i64 0]), 2, 16) := by kernel_rfl

/-- the slot behind (by 1), or before (by -1) -/
def nextR (E : List (Nat × Int)) (s : Int) (by_ : Int) : Option Nat :=
  match placeR E s with
  | none => none
  | some i => if (i : Int) + by_ < 0 then none else slotAt E ((i : Int) + by_).toNat
set_option maxHeartbeats 1000000 in
theorem rnext_any (w : World) (B : Nat) (ev fv : Value) (r : R) (s d : Int) (h : RefAt w B ev fv r) (hm : r.E.length ≤ 1048576) (hd : -1 ≤ d ∧ d ≤ 1) :
    Calls Try.prog 28 #[refV ev fv r, .int .i64 s, .int .i64 d] w fun e w' => e = .returned (.int .i64 (oi (nextR r.E s d))) ∧ Below w.heap.size w w' := by
  have H := Lib.hid h
  clear h
  obtain ⟨hd1, hd2⟩ := hd
  unfold refV
  cases hp : placeR r.E s with
  | none =>
    have e1 : Hid (nextR r.E s d = none) := by show _ = _; unfold nextR; rw [hp]
    have hpl := fun W hW => rplace_any W B ev fv r s (H.out.below hW) hm
    simp only [hp] at hpl
    have HP := Lib.hid hpl
    clear hpl hp
    go_enter Try.func28, Try.ntmps28
    go_wp2_with fail
    refine (HP.out _ ((Below.refl _ _).alloc (Nat.le_refl _) _)).mono ?_
    rintro e w1 ⟨rfl, hb⟩
    have HB := Lib.hid hb
    clear hb
    have t1 : oi none < 0 := by decide
    go_wp2_with fail
    go_ret
    refine ⟨ret_num ?_, ((Below.refl _ _).alloc (Nat.le_refl _) _).trans (HB.out.mono (by simp))⟩
    rw [e1.out]; rfl
  | some i =>
    have hil : i < r.E.length := by
      obtain ⟨x, hx, _⟩ := placeR_get hp
      rcases Nat.lt_or_ge i r.E.length with h1 | h1
      · exact h1
      · rw [List.getElem?_eq_none h1] at hx; cases hx
    have e1 : Hid (nextR r.E s d = if (i : Int) + d < 0 then none else slotAt r.E ((i : Int) + d).toNat) := by show _ = _; unfold nextR; rw [hp]
    have hpl := fun W hW => rplace_any W B ev fv r s (H.out.below hW) hm
    simp only [hp] at hpl
    have HP := Lib.hid hpl
    clear hpl hp
    have hS := fun W hW => slotAt_any W B ev fv r ((i : Int) + d) (H.out.below hW) (by omega)
    obtain ⟨X, hX⟩ : ∃ X, (if (i : Int) + d < 0 then none else slotAt r.E ((i : Int) + d).toNat) = X := ⟨_, rfl⟩
    simp only [hX] at hS
    have HX := Lib.hid hX
    have HS := Lib.hid hS
    clear hS hX
    go_enter Try.func28, Try.ntmps28
    go_wp2_with fail
    refine (HP.out _ ((Below.refl _ _).alloc (Nat.le_refl _) _)).mono ?_
    rintro e w1 ⟨rfl, hb⟩
    rw [show oi (some i) = (i : Int) from rfl]
    have hb1 := ((Below.refl w.heap.size w).alloc (Nat.le_refl _) (.cells #[ev, fv, .int .i64 (r.U : Int)] 28)).trans (hb.mono (by simp))
    have hk := Blk.below (Blk.new w 28 #[ev, fv, .int .i64 (r.U : Int)]) hb (by simp)
    have k0 : w1.cell? ⟨w.heap.size, 0, none⟩ = some ev := hk.cell 0
    have k1 : w1.cell? ⟨w.heap.size, 1, none⟩ = some fv := hk.cell 1
    have k2 : w1.cell? ⟨w.heap.size, 2, none⟩ = some (.int .i64 (r.U : Int)) := hk.cell 2
    have HB := Lib.hid hb1
    clear hb hk hb1
    have hq : IntKind.i64.wrap ((i : Int) + d) = (i : Int) + d := IntWalk.i64_in _ (by omega)
    go_wp2_with fail
    refine (HS.out _ HB.out).mono ?_
    rintro e w2 ⟨rfl, hb2⟩
    have HB2 := Lib.hid hb2
    clear hb2
    go_wp2_with fail
    go_ret
    refine ⟨ret_num ?_, HB.out.trans (HB2.out.mono HB.out.size)⟩
    rw [e1.out, HX.out]

set_option maxHeartbeats 1000000 in
theorem rvalues_any (w : World) (B : Nat) (ev fv : Value) (r : R) (h : RefAt w B ev fv r) (hm : r.E.length ≤ 1048576) :
    Calls Try.prog 13 #[refV ev fv r] w (ValuesPost w (r.E.map Prod.snd)) := by
  obtain ⟨i0, hi, hz0, hz1, hz2⟩ := info_parts int_info
  obtain ⟨ao, g, cap, rfl, hA, hcap, hcell⟩ := elem_cells h
  have HC := Lib.hid hcell
  have HA := Lib.hid hA
  clear h hA hcell
  unfold refV
  go_enter Try.func13, Try.ntmps13
  go_wp2
  go_loopw [3, 9] (fun v i wr => ∃ k : Nat, k ≤ r.E.length ∧ i = .int .i64 (k : Int) ∧ Below w.heap.size w wr ∧ w.heap.size < wr.heap.size ∧ OwnInts wr w.heap.size v ((r.E.map Prod.snd).take k)) (fun v i wr => r.E.length - (intOf i).toNat)
  case atStart => exact ⟨0, Nat.zero_le _, rfl, (Below.refl _ _).alloc (Nat.le_refl _) _, by simp, World.ownsRow_nil _ _ _ _⟩
  case round =>
    obtain ⟨k, hk, rfl, hbel, hsz, hown⟩ := hrel
    have hl0 : ((r.E.map Prod.snd).take k).length = k := by rw [List.length_take, List.length_map]; omega
    rcases Nat.lt_or_ge k r.E.length with hlt | hge
    · obtain ⟨x, hx⟩ : ∃ x, r.E[k]? = some x := ⟨r.E[k]'hlt, List.getElem?_eq_getElem hlt⟩
      obtain ⟨rfl, hg⟩ := HA.out (by omega)
      obtain ⟨c1, c2⟩ := HC.out k x hx
      have d1 := (hbel.cell (p := ⟨g, k * 2, none⟩) hg).trans c1
      have d2 := (hbel.cell (p := ⟨g, k * 2 + 1, none⟩) hg).trans c2
      have htk := take_snoc_int r.E k x hx
      obtain ⟨s, xv⟩ := x
      have hown : wr.ownsRow w.heap.size 3 1 u3 k (((r.E.map Prod.snd).take k).map (Value.int .i64)) := by
        have := hown
        unfold OwnInts at this
        rw [hl0] at this
        exact this
      have HO := Lib.hid hown
      have HW := Lib.hid hbel
      have HT := Lib.hid htk
      have hlt' : (k : Int) < r.E.length := by omega
      clear hown hbel hx c1 c2 htk
      go_wp2_with (at_builtin; refine halted ?_)
      change wpList _ _ _ _ _ _
      have hsz1 : w.heap.size ≤ (wr.alloc (.cells #[.int .i64 (s : Int), .int .i64 xv] 47)).heap.size := by simp; omega
      refine app_at rfl (.tmp 13) (.tmp 16) _ rfl w.heap.size 3 i0 _ 1 8 Try.underlying22 hi hz0 hz1 hz2 rfl (by omega) u3 k _ rfl (HO.out.alloc _) [.int .i64 xv] _ (wr.heap.size + 1) (by simp) rfl rfl
        (by intro u hu; simp at hu; subst hu; rfl) (by omega) (by omega) hsz1 ?_
      intro ao' cap' w1 hown' hg' hlies
      have hb1 : Below w.heap.size w w1 := grownBy_below (HW.out.alloc (by omega) _) (HO.out.alloc (.cells #[.int .i64 (s : Int), .int .i64 xv] 47)) hg' hsz1 (Nat.le_refl _)
      have hsz2 : w.heap.size < w1.heap.size := by have := hg'.size; simp at this; omega
      have HO' := Lib.hid hown'
      have HB1 := Lib.hid hb1
      clear hown' hg' hb1 hlies hsz1 hl0
      go_wp2
      have hl1 : ((r.E.map Prod.snd).take (k + 1)).length = k + 1 := by rw [List.length_take, List.length_map]; omega
      have hnew : OwnInts w1 w.heap.size (.slice ao' (k + 1) cap') ((r.E.map Prod.snd).take (k + 1)) := by
        have := HO'.out
        unfold OwnInts
        rw [hl1, HT.out, List.map_append]
        exact this
      go_roundw
      case rel => exact ⟨k + 1, by omega, by go_num, HB1.out, hsz2, hnew⟩
      case measure => simp [intOf]; omega
    · have hk2 : k = r.E.length := by omega
      have HO := Lib.hid hown
      have HW := Lib.hid hbel
      have HK := Lib.hid hk2
      have hlt' : ¬ ((k : Int) < r.E.length) := by omega
      clear hown hbel hk2 hl0
      go_wp2
      go_ret
      refine ⟨_, rfl, HW.out, ?_⟩
      have := HO.out
      rw [List.take_of_length_le (by simp; omega)] at this
      exact this

theorem owns_base {w : World} {base base' : Nat} {e : TypeId} {size n : Nat} {v : Value} {xs : List Value} (h : w.ownsRow base e size v n xs) (hb : base' ≤ base) : w.ownsRow base' e size v n xs := by
  refine ⟨h.1, ?_⟩
  rcases h.2 with h | ⟨g, cap, cur, h1, h2, h3⟩
  · exact .inl h
  · exact .inr ⟨g, cap, cur, h1, by omega, h3⟩
theorem owns_form {w : World} {base : Nat} {e : TypeId} {size n : Nat} {v : Value} {xs : List Value} (h : w.ownsRow base e size v n xs) : ∃ A c, v = .slice A n c := by
  rcases h.2 with ⟨h1, h2⟩ | ⟨g, cap, cur, h1, _⟩
  · exact ⟨none, 0, by rw [h1, h2]⟩
  · exact ⟨_, _, h1⟩
theorem belowDrew2 {B : Nat} {a w : World} (h : Below B a w) : Below B a w.drew := ⟨h.os, h.tape, h.output, h.size, h.block⟩
theorem heap_alloc_at (w : World) (o : Obj) (n : Nat) (hn : n = w.heap.size) : (w.alloc o).heap[n]? = some o := by subst hn; exact heap_alloc_new w o
/-- what a step of the reference returns -/
def RefPost (w : World) (B : Nat) (r' : R) (v : Value) (e : Ending) (w' : World) : Prop := ∃ ev' fv', e = .returned (.tuple #[refV ev' fv' r', v]) ∧ Below w.heap.size w w' ∧ RefAt w' B ev' fv' r'

theorem free_cells {w : World} {B : Nat} {ev fv : Value} {r : R} (h : RefAt w B ev fv r) : ∃ ao g cap, fv = .slice ao r.F.length cap ∧ (0 < r.F.length → ao = some ⟨g, 0, none⟩ ∧ g < w.heap.size) ∧ r.F.length ≤ cap ∧
    ∀ (j : Nat) (x : Nat), r.F[j]? = some x → w.cell? ⟨g, j, none⟩ = some (.int .i64 (x : Int)) := by
  obtain ⟨ao, g, cap, h1, h2, h3, h4, h5⟩ := owns_cells h.fr
  refine ⟨ao, g, cap, h1, fun hl => ⟨h2 hl, (h3 hl).2⟩, h4, fun j x hj => ?_⟩
  have := h5 j (.int .i64 (x : Int)) (by unfold freesOf; rw [List.getElem?_map, hj]; rfl)
  rw [Nat.zero_add] at this
  exact this

set_option maxHeartbeats 1000000 in
theorem rtake_any (w : World) (B : Nat) (ev fv : Value) (r : R) (h : RefAt w B ev fv r) (hB : B ≤ w.heap.size) (hF : r.F.length ≤ 1048576) (hU : r.U ≤ 1048576) :
    Calls Try.prog 38 #[refV ev fv r] w (RefPost w B (takeR r) (.int .i64 (slotR r : Int))) := by
  obtain ⟨i0, hi, hz0, hz1, hz2⟩ := info_parts int_info
  obtain ⟨ao, g, cap, rfl, hA, hcap, hcell⟩ := free_cells h
  obtain ⟨ao2, cap2, hev⟩ : ∃ ao2 cap2, ev = .slice ao2 r.E.length cap2 := by obtain ⟨a, b, c, h, _⟩ := elem_cells h; exact ⟨a, c, h⟩
  subst hev
  have H := Lib.hid h
  clear h
  unfold refV
  rcases Nat.eq_zero_or_pos r.F.length with h0 | h0
  · have hF0 : r.F = [] := List.eq_nil_of_length_eq_zero h0
    have e1 : Hid (slotR r = r.U) := by show _ = _; unfold slotR; rw [hF0]; rfl
    have e2 : Hid (takeR r = ⟨r.E, r.F, r.U + 1⟩) := by show _ = _; unfold takeR; rw [hF0]; rfl
    have t0 : ¬ (0 < (r.F.length : Int)) := by omega
    have H0 := Lib.hid h0
    clear hF0 h0 hA hcell
    go_enter Try.func38, Try.ntmps38
    go_wp2
    go_region
    all_goals
      go_wp2
      refine bodyPost_ret (results_cell_one rfl _ _ (w.heap.size + 1) _ #[.slice ao2 r.E.length cap2, .slice ao r.F.length cap, .int .i64 ((r.U : Int) + 1)] (0, 0) _ rfl (heap_alloc_at _ _ _ (by simp)) Try.underlying28 rfl (by kernel_rfl)) rfl ⟨.slice ao2 r.E.length cap2, .slice ao r.F.length cap, ?_, ?_, ?_⟩
      · rw [e1.out, e2.out]; rfl
      · exact belowDrew2 (((Below.refl _ _).alloc (Nat.le_refl _) _).alloc (by simp) _)
      · rw [e2.out]
        have := ((H.out.below ((Below.refl _ _).alloc (Nat.le_refl _) (.cells #[.slice ao2 r.E.length cap2, .slice ao r.F.length cap, .int .i64 (r.U : Int)] 28))).below ((Below.refl _ _).alloc (Nat.le_refl _) (.cells #[.slice ao2 r.E.length cap2, .slice ao r.F.length cap, .int .i64 ((r.U : Int) + 1)] 28)))
        exact ⟨this.el, this.fr⟩
  · obtain ⟨m, hm⟩ : ∃ m, r.F.length = m + 1 := ⟨r.F.length - 1, by omega⟩
    obtain ⟨t, ht⟩ : ∃ t, r.F[m]? = some t := ⟨r.F[m]'(by omega), List.getElem?_eq_getElem _⟩
    have e1 : Hid (slotR r = t) := by show _ = _; unfold slotR; rw [hm, freeAt_succ, ht]; rfl
    have e2 : Hid (takeR r = ⟨r.E, r.F.take m, r.U⟩) := by show _ = _; unfold takeR; rw [hm]; rfl
    obtain ⟨rfl, hg⟩ := hA h0
    have hc := hcell m t ht
    have hrd : Reads w w.heap.size 1 (some ⟨g, 0, none⟩) m (freesOf (r.F.take m)) := by
      refine ⟨by unfold freesOf; rw [List.length_map, List.length_take]; omega, fun hm0 => ⟨_, rfl, hg, fun j u hu => ?_⟩⟩
      unfold freesOf at hu
      rw [List.getElem?_map, List.getElem?_take] at hu
      split at hu
      · cases hx : r.F[j]? with
        | none => rw [hx] at hu; cases hu
        | some x =>
          rw [hx] at hu
          injection hu with hu
          subst hu
          rw [add_flat, Nat.zero_add]
          exact hcell j x hx
      · cases hu
    rw [hm]
    have hm1 : m ≤ 1048576 := by omega
    have t0 : (0 : Int) < ((m + 1 : Nat) : Int) := by omega
    have t1 : (m : Int) < (m : Int) + 1 := by omega
    have q1 : IntKind.i64.wrap ((m : Int) + 1 - 1) = (m : Int) := by rw [IntWalk.i64_in _ (by omega)]; omega
    have q2 : IntKind.i64.wrap (m : Int) = (m : Int) := IntWalk.i64_in _ (by omega)
    have hmc : m ≤ cap := by omega
    have HR := Lib.hid hrd
    have HM := Lib.hid hm
    have HG := Lib.hid hg
    have HH := Lib.hid hcell
    clear h0 hA hcell ht hrd hm hg hcap
    go_enter Try.func38, Try.ntmps38
    go_wp2_with fail
    generalize hwa : World.alloc (World.alloc w _) _ = wa
    have hb0 : Below w.heap.size w wa := by rw [← hwa]; exact ((Below.refl _ _).alloc (Nat.le_refl _) _).alloc (by simp) _
    have hk0 : Blk wa w.heap.size 28 #[.slice ao2 r.E.length cap2, .slice (some ⟨g, 0, none⟩) (m + 1) cap, .int .i64 (r.U : Int)] := by rw [← hwa]; exact (Blk.new w _ _).alloc _
    have hk1 : Blk wa (w.heap.size + 1) 28 #[.slice none 0 0, .slice none 0 0, .int .i64 0] := by rw [← hwa]; exact heap_alloc_at _ _ _ (by simp)
    have x0 : wa.cell? ⟨w.heap.size, 0, none⟩ = some (.slice ao2 r.E.length cap2) := hk0.cell 0
    have x1 : wa.cell? ⟨w.heap.size, 1, none⟩ = some (.slice (some ⟨g, 0, none⟩) (m + 1) cap) := hk0.cell 1
    have x2 : wa.cell? ⟨w.heap.size, 2, none⟩ = some (.int .i64 (r.U : Int)) := hk0.cell 2
    have x3 : wa.cell? ⟨g, m, none⟩ = some (.int .i64 (t : Int)) := (hb0.cell (p := ⟨g, m, none⟩) HG.out).trans hc
    have hz1l := hk1.lt
    have hw0 : w.heap.size < wa.heap.size := by omega
    have hgn1 : g ≠ w.heap.size + 1 := by have := HG.out; omega
    have hgn2 : w.heap.size + 1 ≠ g := by have := HG.out; omega
    have hgl : g < wa.heap.size := Nat.lt_of_lt_of_le HG.out hb0.size
    clear hwa hc
    have hown : (wa.alloc (.cells #[] 3)).drew.ownsRow wa.heap.size 3 1 (.slice (some ⟨wa.heap.size, 0, none⟩) 0 0) 0 [] :=
      World.ownsRow_lit (base := wa.heap.size) (e := 3) (size := 1) wa #[] 0 (Nat.le_refl _) (by unfold maxLen; omega) rfl
    have hbl : Below wa.heap.size wa (wa.alloc (.cells #[] 3)).drew := belowDrew2 ((Below.refl wa.heap.size wa).alloc (Nat.le_refl _) _)
    have hrd2 : Reads (wa.alloc (.cells #[] 3)).drew w.heap.size 1 (some ⟨g, 0, none⟩) m (freesOf (r.F.take m)) := (HR.out.below hb0).below (hbl.mono hb0.size)
    have HB0 := Lib.hid hb0
    have HK0 := Lib.hid hk0
    have HK1 := Lib.hid hk1
    have HO := Lib.hid hown
    have HBL := Lib.hid hbl
    have HRD := Lib.hid hrd2
    clear hb0 hk0 hk1 hown hbl hrd2
    go_region_held3 (fun w' => w'.cell? ⟨w.heap.size, 0, none⟩ = some (.slice ao2 r.E.length cap2) ∧ w'.cell? ⟨w.heap.size, 1, none⟩ = some (.slice (some ⟨g, 0, none⟩) (m + 1) cap) ∧ w'.cell? ⟨w.heap.size, 2, none⟩ = some (.int .i64 (r.U : Int)) ∧ w'.cell? ⟨g, m, none⟩ = some (.int .i64 (t : Int)))
      (first | go_keep | exact ⟨(HBA.out.cell (p := ⟨w.heap.size, 0, none⟩) hw0).trans x0, (HBA.out.cell (p := ⟨w.heap.size, 1, none⟩) hw0).trans x1, (HBA.out.cell (p := ⟨w.heap.size, 2, none⟩) hw0).trans x2, (HBA.out.cell (p := ⟨g, m, none⟩) hgl).trans x3⟩ | (dsimp only; (repeat' apply And.intro) <;> go_keep))
      ((refine step_append_any _ (by rfl) (.tmp 12) (.tmp 17) _ (by rfl) wa.heap.size 3 i0 _ 1 8 Try.underlying22 hi hz0 hz1 hz2 rfl (by omega) (.slice (some ⟨wa.heap.size, 0, none⟩) 0 0) 0 [] (by rfl) HO.out w.heap.size (some ⟨g, 0, none⟩) m cap (freesOf (r.F.take m)) (by rfl) HRD.out (frees_one _) (by unfold maxLen; omega) (by omega) HBL.out.size ?_; intro v1 w1 ho1 hg1 hat1; rw [Nat.zero_add, List.nil_append] at ho1; obtain ⟨A1, c1, rfl⟩ := owns_form ho1; have hba : Below wa.heap.size wa w1 := HBL.out.grown hg1 HBL.out.size (fun g e => by have := Option.some.inj (show some wa.heap.size = some g from e); omega); have HBA := Lib.hid hba; have HO1 := Lib.hid ho1; have hk9 := HK1.out.below hba HK1.out.lt; have z0 := hk9.cell 0; have z1 := hk9.cell 1; have z2 := hk9.cell 2; have y0 := hk9.frozen 0; have y1 := hk9.frozen 1; have y2 := hk9.frozen 2; simp at z0 z1 z2; have HK9 := Lib.hid hk9; clear hba ho1 hg1 hat1 hk9))
    go_wp2
    have hb1 : Below w.heap.size w w1 := HB0.out.trans (HBA.out.mono HB0.out.size)
    have hset : Only (fun k => k = w.heap.size + 1) w1 (((w1.setCell ⟨w.heap.size + 1, 0, none⟩ (.slice ao2 r.E.length cap2)).setCell ⟨w.heap.size + 1, 1, none⟩ (.slice A1 m c1)).setCell ⟨w.heap.size + 1, 2, none⟩ (.int .i64 (r.U : Int))) :=
      (((Only.refl (fun k => k = w.heap.size + 1) w1).setCell_ (p := ⟨w.heap.size + 1, 0, none⟩) (.inl rfl) _).setCell_ (p := ⟨w.heap.size + 1, 1, none⟩) (.inl rfl) _).setCell_ (p := ⟨w.heap.size + 1, 2, none⟩) (.inl rfl) _
    have hbf := hset.below_trans hb1 hb1.size (fun k hk => by omega)
    have hk9 := ((HK9.out.set_ 0 (.slice ao2 r.E.length cap2)).set_ 1 (.slice A1 m c1)).set_ 2 (.int .i64 (r.U : Int))
    refine bodyPost_ret (results_cell_one rfl _ _ (w.heap.size + 1) _ #[.slice ao2 r.E.length cap2, .slice A1 m c1, .int .i64 (r.U : Int)] (0, 0) _ rfl hk9 Try.underlying28 rfl (by kernel_rfl)) rfl ⟨.slice ao2 r.E.length cap2, .slice A1 m c1, ?_, hbf, ?_⟩
    · rw [e1.out, e2.out]; rfl
    · rw [e2.out]
      refine ⟨(H.out.below hbf).el, ?_⟩
      have hl : (r.F.take m).length = m := by rw [List.length_take, HM.out]; omega
      show World.ownsRow _ _ _ _ _ (r.F.take m).length (freesOf (r.F.take m))
      rw [hl]
      exact owns_base (owns_only HO1.out hset (fun g hg e => by have := (HO1.out.lt g hg).1; omega)) (by omega)
end Go.Proofs.Ytlkpdmblhejnhaa
