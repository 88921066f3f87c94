/- Fields: whether they are right; their bytes. -/
import Derived.Test.YtnhggaghidbniaaWirV
import Derived.Test.YtnhggaghidbniaaKeyL
import Derived.Deep.RegionHeld3
namespace Go.Proofs.Ytnhggaghidbniaa
open Go.RowKit
set_option linter.unusedVariables false
set_option linter.unusedSimpArgs false
open Wir

/-- a field; v: its bytes -/
abbrev fldV (f : Fld) (v : Value) : Value := .agg #[.int .i64 f.num, .int .i64 f.kind, .int .u64 (f.val : Int), v]
theorem right_no1 {f : Fld} (h : f.num < 1) : f.right = false := by unfold Fld.right; simp; omega
theorem right_no2 {f : Fld} (h : 536870911 < f.num) : f.right = false := by unfold Fld.right; simp; omega
theorem right_if {f : Fld} (h1 : 1 ≤ f.num) (h2 : f.num ≤ 536870911) : f.right = ((decide (f.kind = 0) && decide (f.bytes.length = 0)) || (decide (f.kind = 2) && decide (f.val = 0))) := by
  unfold Fld.right; simp [h1, h2]
theorem SeeB.alloc {w : World} {v : Value} {b : List UInt8} (h : SeeB w v b) (o : Obj) : SeeB (w.alloc o) v b := h.below ((Below.refl _ _).alloc (Nat.le_refl _) _)
def Rt (w : World) (f : Fld) (e : Ending) (w' : World) : Prop := e = .returned (.bool f.right) ∧ Below w.heap.size w w'

set_option maxRecDepth 100000 in
set_option maxHeartbeats 1000000 in
theorem wvalid_any (w : World) (f : Fld) (v : Value) (hv : SeeB w v f.bytes) : Calls Try.prog 54 #[fldV f v] w (Rt w f) := by
  obtain ⟨A, c, rfl, _, hc, _⟩ := hv
  unfold Rt
  obtain ⟨len, hlen⟩ : ∃ len, f.bytes.length = len := ⟨_, rfl⟩
  have hl : (0 : Int) ≤ len := by omega
  rw [hlen]
  obtain ⟨R, hRR⟩ : ∃ R, f.right = R := ⟨_, rfl⟩
  rw [hRR]
  have HRR := Lib.hid hRR
  clear hRR
  go_enter Try.func54, Try.ntmps54
  by_cases h1 : f.num < 1
  · have hr := right_no1 h1
    have HE : Hid (R = false) := Lib.hid (HRR.out.symm.trans hr)
    clear hr
    go_wp2_with fail
    go_ret
    have e := HE.out
    subst e
    exact ⟨rfl, (Below.refl _ _).alloc (Nat.le_refl _) _⟩
  by_cases h2 : 536870911 < f.num
  · have hr := right_no2 h2
    have HE : Hid (R = false) := Lib.hid (HRR.out.symm.trans hr)
    clear hr
    go_wp2_with fail
    go_ret
    have e := HE.out
    subst e
    exact ⟨rfl, (Below.refl _ _).alloc (Nat.le_refl _) _⟩
  have hr := right_if (f := f) (by omega) (by omega)
  rw [hlen] at hr
  by_cases h3 : f.kind = 0
  · have t3 : (f.kind == 0) = true := beq_iff_eq.2 h3
    have t5 : (f.kind == 2) = false := beq_eq_false_iff_ne.2 (by omega)
    by_cases h4 : len = 0
    · have t4 : ((len : Int) == 0) = true := beq_iff_eq.2 (by omega)
      have hr : f.right = true := by rw [hr]; simp [h3, h4]
      clear h3 h4 hlen
      have HE : Hid (R = true) := Lib.hid (HRR.out.symm.trans hr)
      clear hr
      go_wp2_with fail
      go_ret
      have e := HE.out
      subst e
      exact ⟨rfl, (Below.refl _ _).alloc (Nat.le_refl _) _⟩
    · have t4 : ((len : Int) == 0) = false := beq_eq_false_iff_ne.2 (by omega)
      have hr : f.right = false := by rw [hr]; simp [h3, h4]
      clear h3 h4 hlen
      have HE : Hid (R = false) := Lib.hid (HRR.out.symm.trans hr)
      clear hr
      go_wp2_with fail
      go_ret
      have e := HE.out
      subst e
      exact ⟨rfl, (Below.refl _ _).alloc (Nat.le_refl _) _⟩
  · have t3 : (f.kind == 0) = false := beq_eq_false_iff_ne.2 h3
    by_cases h5 : f.kind = 2
    · have t5 : (f.kind == 2) = true := beq_iff_eq.2 h5
      by_cases h6 : f.val = 0
      · have t6 : ((f.val : Int) == 0) = true := beq_iff_eq.2 (by omega)
        have hr : f.right = true := by rw [hr]; simp [h5, h6]
        clear h3 h5 h6 hlen
        have HE : Hid (R = true) := Lib.hid (HRR.out.symm.trans hr)
        clear hr
        go_wp2_with fail
        go_ret
        have e := HE.out
        subst e
        exact ⟨rfl, (Below.refl _ _).alloc (Nat.le_refl _) _⟩
      · have t6 : ((f.val : Int) == 0) = false := beq_eq_false_iff_ne.2 (by omega)
        have hr : f.right = false := by rw [hr]; simp [h3, h6]
        clear h3 h5 h6 hlen
        have HE : Hid (R = false) := Lib.hid (HRR.out.symm.trans hr)
        clear hr
        go_wp2_with fail
        go_ret
        have e := HE.out
        subst e
        exact ⟨rfl, (Below.refl _ _).alloc (Nat.le_refl _) _⟩
    · have t5 : (f.kind == 2) = false := beq_eq_false_iff_ne.2 h5
      have hr : f.right = false := by rw [hr]; simp [h3, h5]
      clear h3 h5 hlen
      have HE : Hid (R = false) := Lib.hid (HRR.out.symm.trans hr)
      clear hr
      go_wp2_with fail
      go_ret
      have e := HE.out
      subst e
      exact ⟨rfl, (Below.refl _ _).alloc (Nat.le_refl _) _⟩

set_option maxRecDepth 100000 in
set_option maxHeartbeats 1000000 in
theorem rright_any (w : World) (f : Fld) (v : Value) (hv : SeeB w v f.bytes) : Calls Try.prog 45 #[fldV f v] w (Rt w f) := by
  obtain ⟨A, c, rfl, _, hc, _⟩ := hv
  unfold Rt
  obtain ⟨len, hlen⟩ : ∃ len, f.bytes.length = len := ⟨_, rfl⟩
  have hl : (0 : Int) ≤ len := by omega
  rw [hlen]
  obtain ⟨R, hRR⟩ : ∃ R, f.right = R := ⟨_, rfl⟩
  rw [hRR]
  have HRR := Lib.hid hRR
  clear hRR
  go_enter Try.func45, Try.ntmps45
  by_cases h1 : f.num < 1
  · have hr := right_no1 h1
    have HE : Hid (R = false) := Lib.hid (HRR.out.symm.trans hr)
    clear hr
    go_wp2_with fail
    go_ret
    have e := HE.out
    subst e
    exact ⟨rfl, (Below.refl _ _).alloc (Nat.le_refl _) _⟩
  by_cases h2 : 536870911 < f.num
  · have hr := right_no2 h2
    have HE : Hid (R = false) := Lib.hid (HRR.out.symm.trans hr)
    clear hr
    go_wp2_with fail
    go_ret
    have e := HE.out
    subst e
    exact ⟨rfl, (Below.refl _ _).alloc (Nat.le_refl _) _⟩
  have hr := right_if (f := f) (by omega) (by omega)
  rw [hlen] at hr
  by_cases h3 : f.kind = 0
  · have t3 : (f.kind == 0) = true := beq_iff_eq.2 h3
    have t5 : (f.kind == 2) = false := beq_eq_false_iff_ne.2 (by omega)
    by_cases h4 : len = 0
    · have t4 : ((len : Int) == 0) = true := beq_iff_eq.2 (by omega)
      have hr : f.right = true := by rw [hr]; simp [h3, h4]
      clear h3 h4 hlen
      have HE : Hid (R = true) := Lib.hid (HRR.out.symm.trans hr)
      clear hr
      go_wp2_with fail
      go_ret
      have e := HE.out
      subst e
      exact ⟨rfl, (Below.refl _ _).alloc (Nat.le_refl _) _⟩
    · have t4 : ((len : Int) == 0) = false := beq_eq_false_iff_ne.2 (by omega)
      have hr : f.right = false := by rw [hr]; simp [h3, h4]
      clear h3 h4 hlen
      have HE : Hid (R = false) := Lib.hid (HRR.out.symm.trans hr)
      clear hr
      go_wp2_with fail
      go_ret
      have e := HE.out
      subst e
      exact ⟨rfl, (Below.refl _ _).alloc (Nat.le_refl _) _⟩
  · have t3 : (f.kind == 0) = false := beq_eq_false_iff_ne.2 h3
    by_cases h5 : f.kind = 2
    · have t5 : (f.kind == 2) = true := beq_iff_eq.2 h5
      by_cases h6 : f.val = 0
      · have t6 : ((f.val : Int) == 0) = true := beq_iff_eq.2 (by omega)
        have hr : f.right = true := by rw [hr]; simp [h5, h6]
        clear h3 h5 h6 hlen
        have HE : Hid (R = true) := Lib.hid (HRR.out.symm.trans hr)
        clear hr
        go_wp2_with fail
        go_ret
        have e := HE.out
        subst e
        exact ⟨rfl, (Below.refl _ _).alloc (Nat.le_refl _) _⟩
      · have t6 : ((f.val : Int) == 0) = false := beq_eq_false_iff_ne.2 (by omega)
        have hr : f.right = false := by rw [hr]; simp [h3, h6]
        clear h3 h5 h6 hlen
        have HE : Hid (R = false) := Lib.hid (HRR.out.symm.trans hr)
        clear hr
        go_wp2_with fail
        go_ret
        have e := HE.out
        subst e
        exact ⟨rfl, (Below.refl _ _).alloc (Nat.le_refl _) _⟩
    · have t5 : (f.kind == 2) = false := beq_eq_false_iff_ne.2 h5
      have hr : f.right = false := by rw [hr]; simp [h3, h5]
      clear h3 h5 hlen
      have HE : Hid (R = false) := Lib.hid (HRR.out.symm.trans hr)
      clear hr
      go_wp2_with fail
      go_ret
      have e := HE.out
      subst e
      exact ⟨rfl, (Below.refl _ _).alloc (Nat.le_refl _) _⟩

/-- what writing a field leaves -/
def FApp (w : World) (b : List UInt8) (f : Fld) (e : Ending) (w' : World) : Prop :=
  Below w.heap.size w w' ∧ ((f.right = false ∧ e = .returned (.tuple #[.slice none 0 0, .int .i64 1])) ∨ (f.right = true ∧ ∃ v', e = .returned (.tuple #[v', .int .i64 0]) ∧ OwnB w' w.heap.size v' (b ++ enc f)))
theorem right_bounds {f : Fld} (h : f.right = true) : 1 ≤ f.num ∧ f.num ≤ 536870911 ∧ ((f.kind = 0 ∧ f.bytes = []) ∨ (f.kind = 2 ∧ f.val = 0)) := by
  unfold Fld.right at h
  simp only [Bool.and_eq_true, Bool.or_eq_true, decide_eq_true_eq] at h
  obtain ⟨⟨h1, h2⟩, h3⟩ := h
  refine ⟨h1, h2, ?_⟩
  rcases h3 with ⟨a, b⟩ | ⟨a, b⟩
  · exact .inl ⟨a, List.length_eq_zero_iff.1 b⟩
  · exact .inr ⟨a, b⟩
theorem tag_eq (f : Fld) (h : 1 ≤ f.num ∧ f.num ≤ 536870911) (hk : f.kind = 0 ∨ f.kind = 2) : (((8 * f.num + f.kind).toNat : Nat) : Int) = 8 * f.num + f.kind ∧ (8 * f.num + f.kind).toNat < 2 ^ 64 := by omega

theorem wtag_any (w : World) (f : Fld) (v : Value) (h1 : 1 ≤ f.num ∧ f.num ≤ 536870911) (hk : f.kind = 0 ∨ f.kind = 2) (h2 : v.oneCell' = true) :
    Calls Try.prog 56 #[fldV f v] w fun e w' => e = .returned (.int .u64 (8 * f.num + f.kind)) ∧ Below w.heap.size w w' := by
  have g1 : IntKind.i64.wrap (8 * f.num) = 8 * f.num := IntWalk.i64_in _ (by omega)
  have g2 : IntKind.i64.wrap (8 * f.num + f.kind) = 8 * f.num + f.kind := IntWalk.i64_in _ (by omega)
  have g3 : IntKind.u64.wrap (8 * f.num + f.kind) = 8 * f.num + f.kind := by rw [IntKind.wrap_u64]; omega
  go_enter Try.func56, Try.ntmps56
  go_wp2_with fail
  go_ret
  exact ⟨rfl, (Below.refl _ _).alloc (Nat.le_refl _) _⟩

theorem own_blk_ne2 {w : World} {base g : Nat} {e t : TypeId} {size n : Nat} {v : Value} {xs : List Value} {cs : Array Value} (h : w.ownsRow base e size v n xs) (hg : Blk w g t cs) (hne : e ≠ t) : v.ownBlock ≠ some g := own_blk_ne h hg hne

set_option maxRecDepth 100000 in
set_option maxHeartbeats 4000000 in
theorem wappend_any (w : World) (vb : Value) (b : List UInt8) (hs : SeeB w vb b) (hb : b.length ≤ 1073741824) (f : Fld) (v : Value) (hv : SeeB w v f.bytes) (hval : f.val < 2 ^ 64) (hfb : f.bytes.length ≤ 1073741824) :
    Calls Try.prog 40 #[vb, fldV f v] w (FApp w b f) := by
  have HS := Lib.hid hs
  have hv1 := hv.oneCell
  have HV := Lib.hid hv
  clear hs hv
  go_enter Try.func40, Try.ntmps40
  go_upto_region 1 with (fail)
  generalize hw1 : World.alloc _ _ = w1
  have hb1 : Below w.heap.size w w1 := by rw [← hw1]; exact (Below.refl _ _).alloc (Nat.le_refl _) _
  have hk1 : Blk w1 w.heap.size 50 #[.int .i64 f.num, .int .i64 f.kind, .int .u64 (f.val : Int), v] := by rw [← hw1]; exact heap_alloc_new _ _
  obtain ⟨g, hg⟩ : ∃ g, w.heap.size = g := ⟨_, rfl⟩
  rw [hg] at hk1 ⊢
  have HG := Lib.hid hg
  have HB1 := Lib.hid hb1
  have HK1 := Lib.hid hk1
  have HV1 := Lib.hid (HV.out.below hb1)
  have HS1 := Lib.hid (HS.out.below hb1)
  have c0 := hk1.cell 0
  have c1 := hk1.cell 1
  have c2 := hk1.cell 2
  have c3 := hk1.cell 3
  simp only [List.getElem?_toArray, List.getElem?_cons_zero, List.getElem?_cons_succ] at c0 c1 c2 c3
  clear hw1 hb1 hk1 hg HV HS
  go_wp2_with fail
  refine (wvalid_any w1 f v HV1.out).mono ?_
  rintro e w2 ⟨rfl, hb2⟩
  have HB2 := Lib.hid (HB1.out.trans (hb2.mono HB1.out.size))
  have HK2 := Lib.hid (HK1.out.below hb2 HK1.out.lt)
  have HV2 := Lib.hid (HV1.out.below hb2)
  have HS2 := Lib.hid (HS1.out.below hb2)
  have c0 := HK2.out.cell 0
  have c1 := HK2.out.cell 1
  have c2 := HK2.out.cell 2
  have c3 := HK2.out.cell 3
  simp only [List.getElem?_toArray, List.getElem?_cons_zero, List.getElem?_cons_succ] at c0 c1 c2 c3
  clear hb2 HB1 HK1 HV1 HS1
  cases hR : f.right with
  | false =>
    go_wp2_with fail
    go_ret2
    exact ⟨HB2.out, .inl ⟨hR, rfl⟩⟩
  | true =>
  obtain ⟨hb1, hb2, hb3⟩ := right_bounds hR
  have hk01 : f.kind = 0 ∨ f.kind = 2 := by omega
  obtain ⟨ht1, ht2⟩ := tag_eq f ⟨hb1, hb2⟩ hk01
  obtain ⟨T, hT⟩ : ∃ T, (8 * f.num + f.kind).toNat = T := ⟨_, rfl⟩
  rw [hT] at ht2
  have ht3 : 8 * f.num + f.kind = (T : Int) := by omega
  have henc : enc f = vint T ++ (if f.kind = 0 then vint f.val else vint f.bytes.length ++ f.bytes) := by rw [← hT]; rfl
  have HT := Lib.hid hT
  go_wp2_with fail
  refine (wtag_any _ f v ⟨hb1, hb2⟩ hk01 hv1).mono ?_
  rintro e w3 ⟨rfl, hb3⟩
  have HB3 := Lib.hid (HB2.out.trans (hb3.mono HB2.out.size))
  have HK3 := Lib.hid (HK2.out.below hb3 HK2.out.lt)
  have HV3 := Lib.hid (HV2.out.below hb3)
  have HS3 := Lib.hid (HS2.out.below hb3)
  clear hb3 HB2 HK2 HV2 HS2
  go_wp2_with fail
  refine (vappend_any w3 vb b HS3.out (by omega) T ht2).mono ?_
  rintro e w4 ⟨v4, rfl, hb4, ho4⟩
  have HB4 := Lib.hid (HB3.out.trans (hb4.mono HB3.out.size))
  have HK4 := Lib.hid (HK3.out.below hb4 HK3.out.lt)
  have HV4 := Lib.hid (HV3.out.below hb4)
  have HO4 : Hid (OwnB w4 w.heap.size v4 (b ++ vint T)) := Lib.hid (ho4.less HB3.out.size)
  have c0 := HK4.out.cell 0
  have c1 := HK4.out.cell 1
  have c2 := HK4.out.cell 2
  have c3 := HK4.out.cell 3
  simp only [List.getElem?_toArray, List.getElem?_cons_zero, List.getElem?_cons_succ] at c0 c1 c2 c3
  clear hb4 ho4 HB3 HK3 HV3 HS3 ht1 hT
  have hl4 : (b ++ vint T).length ≤ 1073741834 := by
    have := vint_len 9 T (by have : (128 : Nat) ^ (9 + 1) = 1180591620717411303424 := by decide
                             omega)
    rw [List.length_append]; omega
  by_cases h0 : f.kind = 0
  · have t0 : (f.kind == 0) = true := beq_iff_eq.2 h0
    rw [if_pos h0] at henc
    have HENC := Lib.hid henc
    clear henc h0 hb3 hk01
    go_wp2_with fail
    refine (vappend_any w4 v4 _ HO4.out.see (by omega) f.val hval).mono ?_
    rintro e w5 ⟨v5, rfl, hb5, ho5⟩
    have HB5 := Lib.hid (HB4.out.trans (hb5.mono HB4.out.size))
    have HO5 := Lib.hid ho5
    have HZ4 := Lib.hid HB4.out.size
    clear hb5 ho5
    go_wp2_with fail
    go_ret2
    refine ⟨HB5.out, .inr ⟨hR, _, rfl, ?_⟩⟩
    have := HO5.out.less HZ4.out
    rw [HENC.out, ← List.append_assoc]
    exact this
  · have t0 : (f.kind == 0) = false := beq_eq_false_iff_ne.2 h0
    rw [if_neg h0] at henc
    have HENC := Lib.hid henc
    obtain ⟨A, c, hve, hlc, hc63, hrd⟩ := HV4.out
    rw [hve] at c3
    obtain ⟨len, hlen⟩ : ∃ len, f.bytes.length = len := ⟨_, rfl⟩
    rw [hlen] at c3 hfb hlc
    have HLEN := Lib.hid hlen
    have HVE := Lib.hid hve
    have g5 : IntKind.u64.wrap (len : Int) = (len : Int) := by rw [IntKind.wrap_u64]; omega
    have hw4s := HB4.out.size
    clear henc h0 hb3 hk01 hve hrd hlen c0 c2
    go_upto_region 6 with (fail)
    refine wp_region_noPanic ?_
    refine wp_region_held_drew (S := fun w' => w'.cell? ⟨g, 3, none⟩ = some (.slice A len c) ∧ True) (by kernel_rfl) ⟨c3, trivial⟩ (fun hHeld => ?_)
    refine wpAnyH_take (i := 0) (oi := ⟨some 21, _, _, _, _, _⟩) (v := ?_) rfl (by kernel_rfl) (by kernel_rfl) (by kernel_rfl) (fun _ _ _ h => h) (Or.inl ⟨by kernel_rfl, ?_⟩) hHeld ?_
    rotate_left
    · intro w hSw
      obtain ⟨c3, _⟩ := hSw
      go_simp
      all_goals (with_reducible rfl)
    conv => arg 8; simp only [Act.put, List.setIfInBounds_toArray, List.set_cons_zero, List.set_cons_succ]
    refine wpAnyH_take (i := 1) (oi := ⟨some 22, _, _, _, _, _⟩) (v := ?_) rfl (by kernel_rfl) (by kernel_rfl) (by kernel_rfl) (fun _ _ _ h => h) (Or.inl ⟨by kernel_rfl, ?_⟩) hHeld ?_
    rotate_left
    · intro w hSw
      obtain ⟨c3, _⟩ := hSw
      go_simp
      all_goals (with_reducible rfl)
    conv => arg 8; simp only [Act.put, List.setIfInBounds_toArray, List.set_cons_zero, List.set_cons_succ]
    refine wpAnyH_take (i := 2) (oi := ⟨some 23, _, _, _, _, _⟩) (v := ?_) rfl (by kernel_rfl) (by kernel_rfl) (by kernel_rfl) (fun _ _ _ h => h) (Or.inl ⟨by kernel_rfl, ?_⟩) hHeld ?_
    rotate_left
    · intro w hSw
      obtain ⟨c3, _⟩ := hSw
      go_simp
      all_goals (with_reducible rfl)
    conv => arg 8; simp only [Act.put, List.setIfInBounds_toArray, List.set_cons_zero, List.set_cons_succ]
    refine wpAnyH_take (i := 3) (oi := ⟨some 24, _, _, _, _, _⟩) (v := ?_) rfl (by kernel_rfl) (by kernel_rfl) (by kernel_rfl) (fun _ _ _ h => h) (Or.inl ⟨by kernel_rfl, ?_⟩) hHeld ?_
    rotate_left
    · intro w hSw
      obtain ⟨c3, _⟩ := hSw
      go_simp
      all_goals (with_reducible rfl)
    conv => arg 8; simp only [Act.put, List.setIfInBounds_toArray, List.set_cons_zero, List.set_cons_succ]
    refine wpAnyH_take (i := 4) (oi := ⟨some 25, _, _, _, _, _⟩) (v := ?_) rfl (by kernel_rfl) (by kernel_rfl) (by kernel_rfl) (fun _ _ _ h => h) (Or.inl ⟨by kernel_rfl, ?_⟩) hHeld ?_
    rotate_left
    · intro w hSw
      obtain ⟨c3, _⟩ := hSw
      go_simp
      all_goals (with_reducible rfl)
    conv => arg 8; simp only [Act.put, List.setIfInBounds_toArray, List.set_cons_zero, List.set_cons_succ]
    refine wpAnyH_take (i := 6) (oi := ⟨some 27, _, _, _, _, _⟩) (v := ?_) rfl (by kernel_rfl) (by kernel_rfl) (by kernel_rfl) (fun _ _ _ h => h) (Or.inl ⟨by kernel_rfl, ?_⟩) hHeld ?_
    rotate_left
    · intro w hSw
      obtain ⟨c3, _⟩ := hSw
      go_simp
      all_goals (with_reducible rfl)
    conv => arg 8; simp only [Act.put, List.setIfInBounds_toArray, List.set_cons_zero, List.set_cons_succ]
    refine wpAnyH_take (i := 7) (oi := ⟨some 28, _, _, _, _, _⟩) (v := ?_) rfl (by kernel_rfl) (by kernel_rfl) (by kernel_rfl) (fun _ _ _ h => h) (Or.inl ⟨by kernel_rfl, ?_⟩) hHeld ?_
    rotate_left
    · intro w hSw
      obtain ⟨c3, _⟩ := hSw
      go_simp
      all_goals (with_reducible rfl)
    conv => arg 8; simp only [Act.put, List.setIfInBounds_toArray, List.set_cons_zero, List.set_cons_succ]
    refine wpAnyH_ready (rs := [5]) (by kernel_rfl) (by simp) ?_
    refine AllReadyH.cons (o := ⟨some 26, _, _, _, _, _⟩) rfl (fun K hK => ?_) AllReadyH.nil
    go_simp
    go_at_call 55
    (with_reducible refine (vappend_any _ v4 _ (HO4.out.see.below (belowDrewR (Below.refl _ _))) (by omega) len (by omega)).mono ?_)
    rintro e w5 ⟨v5, rfl, hb5, ho5⟩
    have HBC := Lib.hid (below_step (a := w4) (belowDrewR (Below.refl _ _)) hb5)
    have HO5 : Hid (OwnB w5 w.heap.size v5 ((b ++ vint T) ++ vint len)) := Lib.hid (ho5.less (Nat.le_trans hw4s (belowDrewR (Below.refl w4.heap.size w4)).size))
    clear hb5 ho5
    refine hK.out _ _ ⟨(HBC.out.cell (p := ⟨g, 3, none⟩) HK4.out.lt).trans c3, trivial⟩ (fun hHeld => ?_)
    clear hK K
    conv => arg 8; simp only [Act.put, List.setIfInBounds_toArray, List.set_cons_zero, List.set_cons_succ]
    refine wpAnyH_ready (rs := [8]) (by kernel_rfl) (by simp) ?_
    refine AllReadyH.cons (o := ⟨some 29, _, _, _, _, _⟩) rfl (fun K hK => ?_) AllReadyH.nil
    have hsee5 : SeeB w5 (.slice A len c) f.bytes := by
      have h1 := HV4.out.below HBC.out
      rw [HVE.out, HLEN.out] at h1
      exact h1
    have hl5 : ((b ++ vint T) ++ vint len).length ≤ 1073741844 := by
      have := vint_len 9 len (by have : (128 : Nat) ^ (9 + 1) = 1180591620717411303424 := by decide
                                 omega)
      rw [List.length_append]; omega
    obtain ⟨i0, hi0, hz0, hz1, hz2⟩ := info_parts u8_infoW
    obtain ⟨A', c', hve', _, _, hrd'⟩ := hsee5
    have hown5 : w5.ownsRow w.heap.size 5 1 v5 _ _ := HO5.out
    have hA : A' = A ∧ c' = c := by rw [HLEN.out] at hve'; injection hve' with h1 h2 h3; exact ⟨h1.symm, h3.symm⟩
    obtain ⟨rfl, rfl⟩ := hA
    refine step_append_any _ (by rfl) (.tmp 26) (.tmp 28) _ (by rfl) w.heap.size 5 i0 _ 1 1 Try.underlying33 hi0 hz0 hz1 hz2 rfl (by omega) v5 _ _ (by rfl) hown5 w5.heap.size A' len c' (bytesL f.bytes) (by rfl) (by rw [HLEN.out] at hrd'; exact hrd') (bytesL_one _) (by unfold maxLen; omega) (by omega) (Nat.le_trans hw4s HBC.out.size) ?_
    intro v6 w6 ho6 hg6 _
    have hb6 : Below w.heap.size w5 w6 := (Below.refl w.heap.size w5).grown hg6 (Nat.le_trans hw4s HBC.out.size) (fun g e => (hown5.lt g e).1)
    have hne : v5.ownBlock ≠ some g := own_blk_ne2 hown5 (HK4.out.below HBC.out HK4.out.lt) (by decide)
    have c36 : w6.cell? ⟨g, 3, none⟩ = some (.slice A' len c') := (World.cell?_of_block (a := ⟨g, 3, none⟩) (hg6.block g (Nat.lt_of_lt_of_le HK4.out.lt HBC.out.size) (fun e => hne e.symm))).trans ((HBC.out.cell (p := ⟨g, 3, none⟩) HK4.out.lt).trans c3)
    have HO6 : Hid (OwnB w6 w.heap.size v6 (b ++ enc f)) := Lib.hid (by
      have h6 : OwnB w6 w.heap.size v6 (((b ++ vint T) ++ vint len) ++ f.bytes) := by
        unfold OwnB
        have el : (((b ++ vint T) ++ vint len) ++ f.bytes).length = ((b ++ vint T) ++ vint len).length + len := by rw [List.length_append, HLEN.out]
        rw [bytesL_append ((b ++ vint T) ++ vint len) f.bytes, el]
        exact ho6
      rw [HENC.out, HLEN.out, ← List.append_assoc, ← List.append_assoc]
      exact h6)
    have HB6 := Lib.hid (HB4.out.trans ((HBC.out.mono hw4s).trans hb6))
    clear ho6 hg6 hb6
    refine hK.out _ _ ⟨c36, trivial⟩ (fun hHeld => ?_)
    clear hK K
    conv => arg 8; simp only [Act.put, List.setIfInBounds_toArray, List.set_cons_zero, List.set_cons_succ]
    refine wpAnyH_take (i := 9) (oi := ⟨some 4, _, _, _, _, _⟩) (v := ?_) rfl (by kernel_rfl) (by kernel_rfl) (by kernel_rfl) (fun _ _ _ h => h) (Or.inl ⟨by kernel_rfl, ?_⟩) hHeld ?_
    rotate_left
    · intro w hSw
      obtain ⟨c3, _⟩ := hSw
      go_simp
      all_goals (with_reducible rfl)
    conv => arg 8; simp only [Act.put, List.setIfInBounds_toArray, List.set_cons_zero, List.set_cons_succ]
    refine wpAnyH_take (i := 10) (oi := ⟨some 5, _, _, _, _, _⟩) (v := ?_) rfl (by kernel_rfl) (by kernel_rfl) (by kernel_rfl) (fun _ _ _ h => h) (Or.inl ⟨by kernel_rfl, ?_⟩) hHeld ?_
    rotate_left
    · intro w hSw
      obtain ⟨c3, _⟩ := hSw
      go_simp
      all_goals (with_reducible rfl)
    conv => arg 8; simp only [Act.put, List.setIfInBounds_toArray, List.set_cons_zero, List.set_cons_succ]
    refine wpAnyH_done (by kernel_rfl) ?_ _
    refine NoPanic.normal ?_
    go_wp2_with fail
    go_ret2
    exact ⟨HB6.out, .inr ⟨hR, _, rfl, HO6.out⟩⟩

set_option maxRecDepth 100000 in
set_option maxHeartbeats 4000000 in
theorem rfield_any (w : World) (vb : Value) (b : List UInt8) (hs : SeeB w vb b) (hb : b.length ≤ 1073741824) (f : Fld) (v : Value) (hv : SeeB w v f.bytes) (hval : f.val < 2 ^ 64) (hfb : f.bytes.length ≤ 1073741824) :
    Calls Try.prog 33 #[vb, fldV f v] w (FApp w b f) := by
  have HS := Lib.hid hs
  have hv1 := hv.oneCell
  have HV := Lib.hid hv
  clear hs hv
  go_enter Try.func33, Try.ntmps33
  go_upto_region 1 with (fail)
  generalize hw1 : World.alloc _ _ = w1
  have hb1 : Below w.heap.size w w1 := by rw [← hw1]; exact (Below.refl _ _).alloc (Nat.le_refl _) _
  have hk1 : Blk w1 w.heap.size 50 #[.int .i64 f.num, .int .i64 f.kind, .int .u64 (f.val : Int), v] := by rw [← hw1]; exact heap_alloc_new _ _
  obtain ⟨g, hg⟩ : ∃ g, w.heap.size = g := ⟨_, rfl⟩
  rw [hg] at hk1 ⊢
  have HG := Lib.hid hg
  have HB1 := Lib.hid hb1
  have HK1 := Lib.hid hk1
  have HV1 := Lib.hid (HV.out.below hb1)
  have HS1 := Lib.hid (HS.out.below hb1)
  have c0 := hk1.cell 0
  have c1 := hk1.cell 1
  have c2 := hk1.cell 2
  have c3 := hk1.cell 3
  simp only [List.getElem?_toArray, List.getElem?_cons_zero, List.getElem?_cons_succ] at c0 c1 c2 c3
  clear hw1 hb1 hk1 hg HV HS
  go_wp2_with fail
  refine (rright_any w1 f v HV1.out).mono ?_
  rintro e w2 ⟨rfl, hb2⟩
  have HB2 := Lib.hid (HB1.out.trans (hb2.mono HB1.out.size))
  have HK2 := Lib.hid (HK1.out.below hb2 HK1.out.lt)
  have HV2 := Lib.hid (HV1.out.below hb2)
  have HS2 := Lib.hid (HS1.out.below hb2)
  have c0 := HK2.out.cell 0
  have c1 := HK2.out.cell 1
  have c2 := HK2.out.cell 2
  have c3 := HK2.out.cell 3
  simp only [List.getElem?_toArray, List.getElem?_cons_zero, List.getElem?_cons_succ] at c0 c1 c2 c3
  clear hb2 HB1 HK1 HV1 HS1
  cases hR : f.right with
  | false =>
    go_wp2_with fail
    go_ret2
    exact ⟨HB2.out, .inl ⟨hR, rfl⟩⟩
  | true =>
  obtain ⟨hb1, hb2, hb3⟩ := right_bounds hR
  have hk01 : f.kind = 0 ∨ f.kind = 2 := by omega
  obtain ⟨ht1, ht2⟩ := tag_eq f ⟨hb1, hb2⟩ hk01
  obtain ⟨T, hT⟩ : ∃ T, (8 * f.num + f.kind).toNat = T := ⟨_, rfl⟩
  rw [hT] at ht2
  have ht3 : 8 * f.num + f.kind = (T : Int) := by omega
  have g1 : IntKind.u64.wrap f.num = f.num := by rw [IntKind.wrap_u64]; omega
  have g2 : IntKind.u64.wrap (f.num * 8) = 8 * f.num := by rw [IntKind.wrap_u64]; omega
  have g3 : IntKind.u64.wrap f.kind = f.kind := by rw [IntKind.wrap_u64]; omega
  have g4 : IntKind.u64.wrap (T : Int) = (T : Int) := by rw [IntKind.wrap_u64]; omega
  have henc : enc f = vint T ++ (if f.kind = 0 then vint f.val else vint f.bytes.length ++ f.bytes) := by rw [← hT]; rfl
  have HT := Lib.hid hT
  go_wp2_with fail
  refine (rvarint_any w2 vb b HS2.out (by omega) T ht2).mono ?_
  rintro e w4 ⟨v4, rfl, hb4, ho4⟩
  have HB4 := Lib.hid (HB2.out.trans (hb4.mono HB2.out.size))
  have HK4 := Lib.hid (HK2.out.below hb4 HK2.out.lt)
  have HV4 := Lib.hid (HV2.out.below hb4)
  have HO4 : Hid (OwnB w4 w.heap.size v4 (b ++ vint T)) := Lib.hid (ho4.less HB2.out.size)
  have c0 := HK4.out.cell 0
  have c1 := HK4.out.cell 1
  have c2 := HK4.out.cell 2
  have c3 := HK4.out.cell 3
  simp only [List.getElem?_toArray, List.getElem?_cons_zero, List.getElem?_cons_succ] at c0 c1 c2 c3
  clear hb4 ho4 HB2 HK2 HV2 HS2 ht1 hT
  have hl4 : (b ++ vint T).length ≤ 1073741834 := by
    have := vint_len 9 T (by have : (128 : Nat) ^ (9 + 1) = 1180591620717411303424 := by decide
                             omega)
    rw [List.length_append]; omega
  by_cases h0 : f.kind = 0
  · have t0 : (f.kind == 0) = true := beq_iff_eq.2 h0
    rw [if_pos h0] at henc
    have HENC := Lib.hid henc
    clear henc h0 hb3 hk01
    go_wp2_with fail
    refine (rvarint_any w4 v4 _ HO4.out.see (by omega) f.val hval).mono ?_
    rintro e w5 ⟨v5, rfl, hb5, ho5⟩
    have HB5 := Lib.hid (HB4.out.trans (hb5.mono HB4.out.size))
    have HO5 := Lib.hid ho5
    have HZ4 := Lib.hid HB4.out.size
    clear hb5 ho5
    go_wp2_with fail
    go_ret2
    refine ⟨HB5.out, .inr ⟨hR, _, rfl, ?_⟩⟩
    have := HO5.out.less HZ4.out
    rw [HENC.out, ← List.append_assoc]
    exact this
  · have t0 : (f.kind == 0) = false := beq_eq_false_iff_ne.2 h0
    rw [if_neg h0] at henc
    have HENC := Lib.hid henc
    obtain ⟨A, c, hve, hlc, hc63, hrd⟩ := HV4.out
    rw [hve] at c3
    obtain ⟨len, hlen⟩ : ∃ len, f.bytes.length = len := ⟨_, rfl⟩
    rw [hlen] at c3 hfb hlc
    have HLEN := Lib.hid hlen
    have HVE := Lib.hid hve
    have g5 : IntKind.u64.wrap (len : Int) = (len : Int) := by rw [IntKind.wrap_u64]; omega
    have hw4s := HB4.out.size
    clear henc h0 hb3 hk01 hve hrd hlen c0 c2
    go_upto_region 6 with (fail)
    refine wp_region_noPanic ?_
    refine wp_region_held_drew (S := fun w' => w'.cell? ⟨g, 3, none⟩ = some (.slice A len c) ∧ True) (by kernel_rfl) ⟨c3, trivial⟩ (fun hHeld => ?_)
    refine wpAnyH_take (i := 0) (oi := ⟨some 27, _, _, _, _, _⟩) (v := ?_) rfl (by kernel_rfl) (by kernel_rfl) (by kernel_rfl) (fun _ _ _ h => h) (Or.inl ⟨by kernel_rfl, ?_⟩) hHeld ?_
    rotate_left
    · intro w hSw
      obtain ⟨c3, _⟩ := hSw
      go_simp
      all_goals (with_reducible rfl)
    conv => arg 8; simp only [Act.put, List.setIfInBounds_toArray, List.set_cons_zero, List.set_cons_succ]
    refine wpAnyH_take (i := 1) (oi := ⟨some 28, _, _, _, _, _⟩) (v := ?_) rfl (by kernel_rfl) (by kernel_rfl) (by kernel_rfl) (fun _ _ _ h => h) (Or.inl ⟨by kernel_rfl, ?_⟩) hHeld ?_
    rotate_left
    · intro w hSw
      obtain ⟨c3, _⟩ := hSw
      go_simp
      all_goals (with_reducible rfl)
    conv => arg 8; simp only [Act.put, List.setIfInBounds_toArray, List.set_cons_zero, List.set_cons_succ]
    refine wpAnyH_take (i := 2) (oi := ⟨some 29, _, _, _, _, _⟩) (v := ?_) rfl (by kernel_rfl) (by kernel_rfl) (by kernel_rfl) (fun _ _ _ h => h) (Or.inl ⟨by kernel_rfl, ?_⟩) hHeld ?_
    rotate_left
    · intro w hSw
      obtain ⟨c3, _⟩ := hSw
      go_simp
      all_goals (with_reducible rfl)
    conv => arg 8; simp only [Act.put, List.setIfInBounds_toArray, List.set_cons_zero, List.set_cons_succ]
    refine wpAnyH_take (i := 3) (oi := ⟨some 30, _, _, _, _, _⟩) (v := ?_) rfl (by kernel_rfl) (by kernel_rfl) (by kernel_rfl) (fun _ _ _ h => h) (Or.inl ⟨by kernel_rfl, ?_⟩) hHeld ?_
    rotate_left
    · intro w hSw
      obtain ⟨c3, _⟩ := hSw
      go_simp
      all_goals (with_reducible rfl)
    conv => arg 8; simp only [Act.put, List.setIfInBounds_toArray, List.set_cons_zero, List.set_cons_succ]
    refine wpAnyH_take (i := 4) (oi := ⟨some 31, _, _, _, _, _⟩) (v := ?_) rfl (by kernel_rfl) (by kernel_rfl) (by kernel_rfl) (fun _ _ _ h => h) (Or.inl ⟨by kernel_rfl, ?_⟩) hHeld ?_
    rotate_left
    · intro w hSw
      obtain ⟨c3, _⟩ := hSw
      go_simp
      all_goals (with_reducible rfl)
    conv => arg 8; simp only [Act.put, List.setIfInBounds_toArray, List.set_cons_zero, List.set_cons_succ]
    refine wpAnyH_take (i := 6) (oi := ⟨some 33, _, _, _, _, _⟩) (v := ?_) rfl (by kernel_rfl) (by kernel_rfl) (by kernel_rfl) (fun _ _ _ h => h) (Or.inl ⟨by kernel_rfl, ?_⟩) hHeld ?_
    rotate_left
    · intro w hSw
      obtain ⟨c3, _⟩ := hSw
      go_simp
      all_goals (with_reducible rfl)
    conv => arg 8; simp only [Act.put, List.setIfInBounds_toArray, List.set_cons_zero, List.set_cons_succ]
    refine wpAnyH_take (i := 7) (oi := ⟨some 34, _, _, _, _, _⟩) (v := ?_) rfl (by kernel_rfl) (by kernel_rfl) (by kernel_rfl) (fun _ _ _ h => h) (Or.inl ⟨by kernel_rfl, ?_⟩) hHeld ?_
    rotate_left
    · intro w hSw
      obtain ⟨c3, _⟩ := hSw
      go_simp
      all_goals (with_reducible rfl)
    conv => arg 8; simp only [Act.put, List.setIfInBounds_toArray, List.set_cons_zero, List.set_cons_succ]
    refine wpAnyH_ready (rs := [5]) (by kernel_rfl) (by simp) ?_
    refine AllReadyH.cons (o := ⟨some 32, _, _, _, _, _⟩) rfl (fun K hK => ?_) AllReadyH.nil
    go_simp
    go_at_call 46
    (with_reducible refine (rvarint_any _ v4 _ (HO4.out.see.below (belowDrewR (Below.refl _ _))) (by omega) len (by omega)).mono ?_)
    rintro e w5 ⟨v5, rfl, hb5, ho5⟩
    have HBC := Lib.hid (below_step (a := w4) (belowDrewR (Below.refl _ _)) hb5)
    have HO5 : Hid (OwnB w5 w.heap.size v5 ((b ++ vint T) ++ vint len)) := Lib.hid (ho5.less (Nat.le_trans hw4s (belowDrewR (Below.refl w4.heap.size w4)).size))
    clear hb5 ho5
    refine hK.out _ _ ⟨(HBC.out.cell (p := ⟨g, 3, none⟩) HK4.out.lt).trans c3, trivial⟩ (fun hHeld => ?_)
    clear hK K
    conv => arg 8; simp only [Act.put, List.setIfInBounds_toArray, List.set_cons_zero, List.set_cons_succ]
    refine wpAnyH_ready (rs := [8]) (by kernel_rfl) (by simp) ?_
    refine AllReadyH.cons (o := ⟨some 35, _, _, _, _, _⟩) rfl (fun K hK => ?_) AllReadyH.nil
    have hsee5 : SeeB w5 (.slice A len c) f.bytes := by
      have h1 := HV4.out.below HBC.out
      rw [HVE.out, HLEN.out] at h1
      exact h1
    have hl5 : ((b ++ vint T) ++ vint len).length ≤ 1073741844 := by
      have := vint_len 9 len (by have : (128 : Nat) ^ (9 + 1) = 1180591620717411303424 := by decide
                                 omega)
      rw [List.length_append]; omega
    obtain ⟨i0, hi0, hz0, hz1, hz2⟩ := info_parts u8_infoW
    obtain ⟨A', c', hve', _, _, hrd'⟩ := hsee5
    have hown5 : w5.ownsRow w.heap.size 5 1 v5 _ _ := HO5.out
    have hA : A' = A ∧ c' = c := by rw [HLEN.out] at hve'; injection hve' with h1 h2 h3; exact ⟨h1.symm, h3.symm⟩
    obtain ⟨rfl, rfl⟩ := hA
    refine step_append_any _ (by rfl) (.tmp 32) (.tmp 34) _ (by rfl) w.heap.size 5 i0 _ 1 1 Try.underlying33 hi0 hz0 hz1 hz2 rfl (by omega) v5 _ _ (by rfl) hown5 w5.heap.size A' len c' (bytesL f.bytes) (by rfl) (by rw [HLEN.out] at hrd'; exact hrd') (bytesL_one _) (by unfold maxLen; omega) (by omega) (Nat.le_trans hw4s HBC.out.size) ?_
    intro v6 w6 ho6 hg6 _
    have hb6 : Below w.heap.size w5 w6 := (Below.refl w.heap.size w5).grown hg6 (Nat.le_trans hw4s HBC.out.size) (fun g e => (hown5.lt g e).1)
    have hne : v5.ownBlock ≠ some g := own_blk_ne2 hown5 (HK4.out.below HBC.out HK4.out.lt) (by decide)
    have c36 : w6.cell? ⟨g, 3, none⟩ = some (.slice A' len c') := (World.cell?_of_block (a := ⟨g, 3, none⟩) (hg6.block g (Nat.lt_of_lt_of_le HK4.out.lt HBC.out.size) (fun e => hne e.symm))).trans ((HBC.out.cell (p := ⟨g, 3, none⟩) HK4.out.lt).trans c3)
    have HO6 : Hid (OwnB w6 w.heap.size v6 (b ++ enc f)) := Lib.hid (by
      have h6 : OwnB w6 w.heap.size v6 (((b ++ vint T) ++ vint len) ++ f.bytes) := by
        unfold OwnB
        have el : (((b ++ vint T) ++ vint len) ++ f.bytes).length = ((b ++ vint T) ++ vint len).length + len := by rw [List.length_append, HLEN.out]
        rw [bytesL_append ((b ++ vint T) ++ vint len) f.bytes, el]
        exact ho6
      rw [HENC.out, HLEN.out, ← List.append_assoc, ← List.append_assoc]
      exact h6)
    have HB6 := Lib.hid (HB4.out.trans ((HBC.out.mono hw4s).trans hb6))
    clear ho6 hg6 hb6
    refine hK.out _ _ ⟨c36, trivial⟩ (fun hHeld => ?_)
    clear hK K
    conv => arg 8; simp only [Act.put, List.setIfInBounds_toArray, List.set_cons_zero, List.set_cons_succ]
    refine wpAnyH_take (i := 9) (oi := ⟨some 4, _, _, _, _, _⟩) (v := ?_) rfl (by kernel_rfl) (by kernel_rfl) (by kernel_rfl) (fun _ _ _ h => h) (Or.inl ⟨by kernel_rfl, ?_⟩) hHeld ?_
    rotate_left
    · intro w hSw
      obtain ⟨c3, _⟩ := hSw
      go_simp
      all_goals (with_reducible rfl)
    conv => arg 8; simp only [Act.put, List.setIfInBounds_toArray, List.set_cons_zero, List.set_cons_succ]
    refine wpAnyH_take (i := 10) (oi := ⟨some 5, _, _, _, _, _⟩) (v := ?_) rfl (by kernel_rfl) (by kernel_rfl) (by kernel_rfl) (fun _ _ _ h => h) (Or.inl ⟨by kernel_rfl, ?_⟩) hHeld ?_
    rotate_left
    · intro w hSw
      obtain ⟨c3, _⟩ := hSw
      go_simp
      all_goals (with_reducible rfl)
    conv => arg 8; simp only [Act.put, List.setIfInBounds_toArray, List.set_cons_zero, List.set_cons_succ]
    refine wpAnyH_done (by kernel_rfl) ?_ _
    refine NoPanic.normal ?_
    go_wp2_with fail
    go_ret2
    exact ⟨HB6.out, .inr ⟨hR, _, rfl, HO6.out⟩⟩
end Go.Proofs.Ytnhggaghidbniaa
