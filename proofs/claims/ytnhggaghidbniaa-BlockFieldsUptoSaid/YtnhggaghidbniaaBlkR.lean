/- number and digest; a header message, field by field. -/
import Derived.Test.YtnhggaghidbniaaBlkQ
namespace Go.Proofs.Ytnhggaghidbniaa
open Go.RowKit
set_option linter.unusedVariables false
set_option linter.unusedSimpArgs false
open Wir

/-- field i is right for a header -/
def okAt (l : List Fld) (i : Nat) : Bool :=
  match l[i]? with
  | none => false
  | some f => decide (f.num = (i : Int) + 1) && (if i < 3 then decide (f.kind = 0) && decide (f.val < 2 ^ 63) else decide (f.kind = 2) && decide (f.bytes.length = 32))
def valAt (l : List Fld) (i : Nat) : Int := match l[i]? with | none => 0 | some f => (f.val : Int)
def keyFld (l : List Fld) (i : Nat) : Ky := match l[i]? with | none => fun _ => 0 | some f => kOf f.bytes
/-- the header of the first j fields -/
def hdPart (l : List Fld) (j : Nat) : Hd :=
  ⟨if 0 < j then valAt l 0 else 0, if 1 < j then valAt l 1 else 0, if 2 < j then valAt l 2 else 0, if 3 < j then keyFld l 3 else fun _ => 0, if 4 < j then keyFld l 4 else fun _ => 0, if 5 < j then keyFld l 5 else fun _ => 0, if 6 < j then keyFld l 6 else fun _ => 0⟩
theorem hdOf_none {l : List Fld} (h : l.length ≠ 7) : hdOf l = none := by
  unfold hdOf
  split
  · simp at h
  · rfl
theorem shape_len {l : List Fld} (h : Wir.shape l = true) : l.length = 7 := by
  unfold Wir.shape at h
  have := congrArg List.length (beq_iff_eq.1 h)
  simpa using this
theorem readH_some {b : List UInt8} {l : List Fld} {x : Hd} (hp : parse b 0 = some l) (h : readH b = some x) : l.length = 7 ∧ (∀ i, i < 7 → okAt l i = true) ∧ x = hdPart l 7 := by
  unfold readH at h
  rw [hp] at h
  simp only [] at h
  split at h
  · rename_i hs
    have hl := shape_len hs
    match l, hl with
    | [a, b, c, d, e, f, g], _ =>
      unfold hdOf at h
      simp only at h
      split at h
      · rename_i hc
        obtain ⟨v0, v1, v2, v3, v4, v5, v6⟩ := hc
        injection h with h
        unfold Wir.shape at hs
        simp only [List.map_cons, List.map_nil, beq_iff_eq, List.cons.injEq, Prod.mk.injEq, and_true] at hs
        obtain ⟨⟨a1, a2⟩, ⟨b1, b2⟩, ⟨c1, c2⟩, ⟨d1, d2⟩, ⟨e1, e2⟩, ⟨f1, f2⟩, ⟨g1, g2⟩⟩ := hs
        refine ⟨rfl, fun i hi => ?_, h.symm⟩
        match i, hi with
        | 0, _ => simp [okAt, a1, a2, v0]
        | 1, _ => simp [okAt, b1, b2, v1]
        | 2, _ => simp [okAt, c1, c2, v2]
        | 3, _ => simp [okAt, d1, d2, v3]
        | 4, _ => simp [okAt, e1, e2, v4]
        | 5, _ => simp [okAt, f1, f2, v5]
        | 6, _ => simp [okAt, g1, g2, v6]
      · cases h
  · cases h
theorem readH_bad {b : List UInt8} {l : List Fld} (hp : parse b 0 = some l) {i : Nat} (hi : i < 7) (h : okAt l i = false) : readH b = none := by
  cases hr : readH b with
  | none => rfl
  | some x =>
    have := (readH_some hp hr).2.1 i hi
    rw [h] at this
    cases this
theorem readH_len {b : List UInt8} {l : List Fld} (hp : parse b 0 = some l) (h : l.length ≠ 7) : readH b = none := by
  cases hr : readH b with
  | none => rfl
  | some x => exact absurd (readH_some hp hr).1 h
theorem readH_no {b : List UInt8} (hp : parse b 0 = none) : readH b = none := by unfold readH; rw [hp]
theorem okAt_num {l : List Fld} {i : Nat} {f : Fld} (hf : l[i]? = some f) (h : okAt l i = true) : f.num = (i : Int) + 1 := by
  unfold okAt at h; rw [hf] at h; simp at h; exact h.1
theorem readH_good {b : List UInt8} {l : List Fld} (hp : parse b 0 = some l) (hl : l.length = 7) (h : ∀ i, i < 7 → okAt l i = true) : readH b = some (hdPart l 7) := by
  match l, hl with
  | [a, c, d, e, f, g, k], _ =>
    have h0 := h 0 (by omega)
    have h1 := h 1 (by omega)
    have h2 := h 2 (by omega)
    have h3 := h 3 (by omega)
    have h4 := h 4 (by omega)
    have h5 := h 5 (by omega)
    have h6 := h 6 (by omega)
    simp [okAt] at h0 h1 h2 h3 h4 h5 h6
    unfold readH
    rw [hp]
    simp only []
    rw [if_pos (by unfold Wir.shape; simp [h0, h1, h2, h3, h4, h5, h6])]
    unfold hdOf
    simp only []
    rw [if_pos ⟨by omega, by omega, by omega, h3.2.2, h4.2.2, h5.2.2, h6.2.2⟩]
    rfl
theorem valAt_le {l : List Fld} {i : Nat} (hi : i < 3) (h : okAt l i = true) : 0 ≤ valAt l i ∧ valAt l i ≤ 9223372036854775807 := by
  unfold okAt at h
  unfold valAt
  split at h
  · cases h
  · rename_i f hf
    simp [hi] at h
    omega
/-- a header with one number more -/
def putN (x : Hd) (j : Nat) (z : Int) : Hd := match j with | 0 => { x with h := z } | 1 => { x with t := z } | _ => { x with p := z }
def putK (x : Hd) (j : Nat) (k : Ky) : Hd := match j with | 0 => { x with par := k } | 1 => { x with txs := k } | 2 => { x with app := k } | _ => { x with res := k }
theorem hdPart_num (l : List Fld) {j : Nat} (hj : j < 3) : hdPart l (j + 1) = putN (hdPart l j) j (valAt l j) := by
  match j, hj with
  | 0, _ => rfl
  | 1, _ => rfl
  | 2, _ => rfl
theorem hdPart_key (l : List Fld) {j : Nat} (hj : j < 4) : hdPart l (3 + j + 1) = putK (hdPart l (3 + j)) j (keyFld l (3 + j)) := by
  match j, hj with
  | 0, _ => rfl
  | 1, _ => rfl
  | 2, _ => rfl
  | 3, _ => rfl
theorem hdCells_putN (x : Hd) {j : Nat} (hj : j < 3) (z : Int) : (hdCells x).toArray.setIfInBounds j (.int .i64 z) = (hdCells (putN x j z)).toArray := by
  match j, hj with
  | 0, _ => rw [List.setIfInBounds_toArray]; rfl
  | 1, _ => rw [List.setIfInBounds_toArray]; rfl
  | 2, _ => rw [List.setIfInBounds_toArray]; rfl
theorem hdCells_putK (x : Hd) {j : Nat} (hj : j < 4) (k : Ky) : (hdCells x).take (3 + j * 32) ++ bytesOf 32 k ++ (hdCells x).drop (3 + j * 32 + 32) = hdCells (putK x j k) := by
  have hl : ∀ q : Ky, (bytesOf 32 q).length = 32 := fun q => bytesOf_length _ _
  have hn : ([.int .i64 x.h, .int .i64 x.t, .int .i64 x.p] : List Value).length = 3 := rfl
  match j, hj with
  | 0, _ =>
    show (hdCells x).take 3 ++ _ ++ (hdCells x).drop 35 = _
    unfold hdCells putK
    rw [List.take_left' hn, show (35 : Nat) = 3 + 32 by rfl, ← List.drop_drop, List.drop_left' hn, List.drop_left' (hl _), List.append_assoc]
    rfl
  | 1, _ =>
    show (hdCells x).take 35 ++ _ ++ (hdCells x).drop 67 = _
    unfold hdCells putK
    rw [show (67 : Nat) = 3 + (32 + 32) by rfl, ← List.drop_drop, List.drop_left' hn, ← List.drop_drop, List.drop_left' (hl _), List.drop_left' (hl _), ← List.append_assoc _ (bytesOf 32 x.par), List.take_left' (by rw [List.length_append, hl]; rfl)]
    simp only [List.append_assoc]
  | 2, _ =>
    show (hdCells x).take 67 ++ _ ++ (hdCells x).drop 99 = _
    unfold hdCells putK
    rw [show (99 : Nat) = 3 + (32 + (32 + 32)) by rfl, ← List.drop_drop, List.drop_left' hn, ← List.drop_drop, List.drop_left' (hl _), ← List.drop_drop, List.drop_left' (hl _), List.drop_left' (hl _), ← List.append_assoc _ (bytesOf 32 x.par), ← List.append_assoc _ (bytesOf 32 x.txs), List.take_left' (by rw [List.length_append, List.length_append, hl, hl]; rfl)]
    simp only [List.append_assoc]
  | 3, _ =>
    show (hdCells x).take 99 ++ _ ++ (hdCells x).drop 131 = _
    unfold hdCells putK
    rw [List.drop_of_length_le (by simp only [List.length_append, hl, hn]; omega), List.append_nil, ← List.append_assoc _ (bytesOf 32 x.par), ← List.append_assoc _ (bytesOf 32 x.txs), ← List.append_assoc _ (bytesOf 32 x.app), List.take_left' (by simp only [List.length_append, hl]; rfl)]
    simp only [List.append_assoc]
theorem hd0 : (Try.zeroCells25) = (hdCells (hdPart [] 0)).toArray := by kernel_rfl

/-! ### number and digest -/
theorem run_arrayAt (A : Option Addr) (c : Nat) (W : World) : (Instr.arrayAt 23 (.slice A 32 c)).run Try.prog W = .ok (.pointer A) W := by kernel_rfl
set_option maxRecDepth 100000 in
set_option maxHeartbeats 1000000 in
theorem number_any (w : World) (f : Fld) (v : Value) (hv : v.oneCell' = true) (hval : f.val < 2 ^ 64) :
    Calls Try.prog 42 #[fldV f v] w fun e w' => (∃ z, e = .returned (.tuple #[.int .i64 z, .bool (decide (f.kind = 0) && decide (f.val < 2 ^ 63))]) ∧ (f.val < 2 ^ 63 → z = (f.val : Int)) ∧ -9223372036854775808 ≤ z ∧ z ≤ 9223372036854775807) ∧ Below w.heap.size w w' := by
  obtain ⟨z, hz⟩ : ∃ z, IntKind.i64.wrap (f.val : Int) = z := ⟨_, rfl⟩
  have hz1 : f.val < 2 ^ 63 → z = (f.val : Int) := fun h => by rw [← hz]; exact IntWalk.i64_in _ (by omega)
  have hzb : -9223372036854775808 ≤ z ∧ z ≤ 9223372036854775807 := by
    have := IntKind.wrap_i64 (f.val : Int)
    rw [hz] at this
    omega
  obtain ⟨R, hR⟩ : ∃ R, (decide (f.kind = 0) && decide (f.val < 2 ^ 63)) = R := ⟨_, rfl⟩
  rw [hR]
  have HZ1 := Lib.hid hz1
  have HZB := Lib.hid hzb
  clear hz1 hzb
  go_enter Try.func42, Try.ntmps42
  go_upto_region 1 with (fail)
  generalize hw1 : World.alloc _ _ = w1
  have hb1 : Below w.heap.size w w1 := by rw [← hw1]; exact (Below.refl _ _).alloc (Nat.le_refl _) _
  have hk1 : Blk w1 w.heap.size 50 #[.int .i64 f.num, .int .i64 f.kind, .int .u64 (f.val : Int), v] := by rw [← hw1]; exact heap_alloc_new _ _
  have c1 := hk1.cell 1
  have c2 := hk1.cell 2
  simp only [List.getElem?_toArray, List.getElem?_cons_zero, List.getElem?_cons_succ] at c1 c2
  have HB1 := Lib.hid hb1
  clear hw1 hb1 hk1
  by_cases h0 : f.kind = 0
  · have t0 : (f.kind == 0) = true := beq_iff_eq.2 h0
    by_cases h1 : f.val < 2 ^ 63
    · have t1 : (f.val : Int) < 9223372036854775808 := by omega
      have t1d : decide ((f.val : Int) < 9223372036854775808) = true := decide_eq_true t1
      have hr : R = true := by rw [← hR]; simp [h0, h1]
      have HR := Lib.hid hr
      clear hR hr h0 h1 t1
      go_quiet (fail)
      go_wp2_with fail
      go_ret2
      exact ⟨⟨z, by rw [HR.out]; rfl, HZ1.out, HZB.out⟩, below_dnR HB1.out _⟩
    · have t1d : decide ((f.val : Int) < 9223372036854775808) = false := decide_eq_false (by omega)
      have hr : R = false := by rw [← hR]; simp [h1]
      have HR := Lib.hid hr
      clear hR hr h0 h1
      go_quiet (fail)
      go_wp2_with fail
      go_ret2
      exact ⟨⟨z, by rw [HR.out]; rfl, HZ1.out, HZB.out⟩, below_dnR HB1.out _⟩
  · have t0 : (f.kind == 0) = false := beq_eq_false_iff_ne.2 h0
    have hr : R = false := by rw [← hR]; simp [h0]
    have HR := Lib.hid hr
    clear hR hr h0
    go_quiet (fail)
    go_wp2_with fail
    go_ret2
    exact ⟨⟨z, by rw [HR.out]; rfl, HZ1.out, HZB.out⟩, below_dnR HB1.out _⟩
set_option maxRecDepth 100000 in
set_option maxHeartbeats 1000000 in
attribute [local go_sem ↓] wp_load_k in
theorem digest_any (w : World) (f : Fld) (v : Value) (hv : SeeB w v f.bytes) :
    Calls Try.prog 43 #[fldV f v] w fun e w' => (∃ k, e = .returned (.tuple #[keyV k, .bool (decide (f.kind = 2) && decide (f.bytes.length = 32))]) ∧ (f.bytes.length = 32 → f.kind = 2 → ∀ i, i < 32 → k i = kOf f.bytes i)) ∧ Below w.heap.size w w' := by
  obtain ⟨A, c, rfl, hl1, hl2, hr⟩ := hv
  have HRD := Lib.hid hr
  clear hr
  obtain ⟨R, hR⟩ : ∃ R, (decide (f.kind = 2) && decide (f.bytes.length = 32)) = R := ⟨_, rfl⟩
  rw [hR]
  obtain ⟨kf, hkf⟩ : ∃ kf : Ky, kOf f.bytes = kf := ⟨_, rfl⟩
  rw [hkf]
  have HKF := Lib.hid hkf
  obtain ⟨len, hlen⟩ : ∃ len, f.bytes.length = len := ⟨_, rfl⟩
  rw [hlen] at hl1 hR HRD ⊢
  have HLEN := Lib.hid hlen
  clear hkf hlen
  go_enter Try.func43, Try.ntmps43
  go_upto_region 1 with (fail)
  generalize hw1 : World.alloc (World.alloc _ _) _ = w1
  have hb1 : Below w.heap.size w w1 := by rw [← hw1]; exact ((Below.refl _ _).alloc (Nat.le_refl _) _).alloc (by simp) _
  have hk1 : Blk w1 w.heap.size 50 #[.int .i64 f.num, .int .i64 f.kind, .int .u64 (f.val : Int), .slice A len c] := by rw [← hw1]; exact Blk.alloc (heap_alloc_new _ _) _
  have hq1 : ∃ z, Blk w1 (w.heap.size + 1) 23 z ∧ z.size = 32 := by
    rw [← hw1]
    exact ⟨_, heap_alloc_at _ _ _ (by simp), rfl⟩
  obtain ⟨z0, hq1, hz0⟩ := hq1
  have c1 := hk1.cell 1
  have c3 := hk1.cell 3
  simp only [List.getElem?_toArray, List.getElem?_cons_zero, List.getElem?_cons_succ] at c1 c3
  have HB1 := Lib.hid hb1
  have HQ1 := Lib.hid hq1
  have HRD1 := Lib.hid (HRD.out.below hb1)
  have hgz : w.heap.size ≤ w.heap.size + 1 := by omega
  have HGZ := Lib.hid hgz
  clear hw1 hb1 hk1 hq1 hgz
  have key : ∀ (kk : Ky) (W : World), W = w1.setRow (w.heap.size + 1) (bytesOf 32 kk).toArray → Below w.heap.size w W ∧ W.heap[w.heap.size + 1]? = some (.cells (bytesOf 32 kk).toArray 23 (0, 0)) := fun kk W e => by
    subst e
    exact row_step HB1.out HGZ.out HQ1.out _
  have HKEY := Lib.hid key
  clear key
  have zk : (bytesOf 32 (fun _ => 0)).toArray = #[.int .u8 0, .int .u8 0, .int .u8 0, .int .u8 0, .int .u8 0, .int .u8 0, .int .u8 0, .int .u8 0, .int .u8 0, .int .u8 0, .int .u8 0, .int .u8 0, .int .u8 0, .int .u8 0, .int .u8 0, .int .u8 0, .int .u8 0, .int .u8 0, .int .u8 0, .int .u8 0, .int .u8 0, .int .u8 0, .int .u8 0, .int .u8 0, .int .u8 0, .int .u8 0, .int .u8 0, .int .u8 0, .int .u8 0, .int .u8 0, .int .u8 0, .int .u8 0] := by kernel_rfl
  have HZK := Lib.hid zk
  clear zk
  by_cases h2 : f.kind = 2
  · have t2 : (f.kind == 2) = true := beq_iff_eq.2 h2
    have t2b : (f.kind != 2) = false := by simp [h2]
    by_cases h3 : len = 32
    · subst h3
      have hr : R = true := by rw [← hR]; simp [h2]
      have HR := Lib.hid hr
      obtain ⟨ad, hA, hblt, hcl⟩ := HRD1.out.2 (by omega)
      subst hA
      have hsp : ad.spot = none := World.cell?_spot (hcl 0 (.int .u8 ((f.bytes.getD 0 0).toNat : Int)) (by
        have hlt : 0 < f.bytes.length := by rw [HLEN.out]; omega
        rw [bytesL_get (List.getElem?_eq_getElem hlt), List.getD_eq_getElem?_getD, List.getElem?_eq_getElem hlt]; rfl)) |> fun h => by simpa [Addr.add] using h
      obtain ⟨ab, ao, asp⟩ := ad
      have hsp : asp = none := hsp
      subst hsp
      have hkc : ∀ j u, (bytesOf 32 kf)[j]? = some u → w1.cell? ((⟨ab, ao, none⟩ : Addr).add j) = some u := fun j u hu => by
        have e : bytesL f.bytes = bytesOf 32 kf := by rw [← HKF.out, bytesL_of, HLEN.out]; rfl
        exact hcl j u (by rw [e]; exact hu)
      have l1 := keyOk_mk hkc
      have l2 := loadK_eq hkc
      have haa := run_arrayAt (some ⟨ab, ao, none⟩) c
      clear hR hr h2 hblt hcl hkc
      go_wp2_with (refine wpList_store_rowTo rfl 23 (.tmp 2) (.tmp 17) rfl rfl (w.heap.size + 1) (bytesOf 32 kf).toArray rfl rfl _ _ HQ1.out (by rw [keyV_size]; kernel_rfl) (by rw [hz0, keyV_size]) (keyV_one _) ?_)
      generalize hwz : World.setRow _ _ _ = wz
      obtain ⟨hbz, hkz⟩ := HKEY.out kf wz hwz.symm
      refine bodyPost_ret (results_cell_tmp rfl _ _ (w.heap.size + 1) _ _ (0, 0) _ rfl hkz Try.underlying23 rfl (by rw [keyV_size]; kernel_rfl)) rfl ⟨⟨kf, by rw [HR.out]; rfl, by intros; rfl⟩, hbz⟩
    · have t3 : ((len : Int) == 32) = false := beq_eq_false_iff_ne.2 (by omega)
      have t3b : ((len : Int) != 32) = true := bne_iff_ne.2 (by omega)
      have hr : R = false := by rw [← hR]; simp [h3]
      have HR := Lib.hid hr
      have HNO : Hid (¬ (len = 32 ∧ f.kind = 2)) := Lib.hid (fun h => h3 h.1)
      clear hR hr h2 h3
      go_wp2_with (refine wpList_store_rowTo rfl 23 (.tmp 2) (.tmp 13) rfl rfl (w.heap.size + 1) _ rfl rfl _ _ HQ1.out (by kernel_rfl) (by rw [hz0]; rfl) (by kernel_rfl) ?_)
      generalize hwz : World.setRow _ _ _ = wz
      obtain ⟨hbz, hkz⟩ := HKEY.out (fun _ => 0) wz (by rw [HZK.out]; exact hwz.symm)
      refine bodyPost_ret (results_cell_tmp rfl _ _ (w.heap.size + 1) _ _ (0, 0) _ rfl hkz Try.underlying23 rfl (by kernel_rfl)) rfl ⟨⟨_, by rw [HR.out]; rfl, fun e1 e2 => absurd (And.intro e1 e2) HNO.out⟩, hbz⟩
  · have t2 : (f.kind == 2) = false := beq_eq_false_iff_ne.2 h2
    have t2b : (f.kind != 2) = true := bne_iff_ne.2 h2
    have hr : R = false := by rw [← hR]; simp [h2]
    have HR := Lib.hid hr
    have HNO : Hid (¬ (len = 32 ∧ f.kind = 2)) := Lib.hid (fun h => h2 h.2)
    clear hR hr h2
    go_wp2_with (refine wpList_store_rowTo rfl 23 (.tmp 2) (.tmp 13) rfl rfl (w.heap.size + 1) _ rfl rfl _ _ HQ1.out (by kernel_rfl) (by rw [hz0]; rfl) (by kernel_rfl) ?_)
    generalize hwz : World.setRow _ _ _ = wz
    obtain ⟨hbz, hkz⟩ := HKEY.out (fun _ => 0) wz (by rw [HZK.out]; exact hwz.symm)
    refine bodyPost_ret (results_cell_tmp rfl _ _ (w.heap.size + 1) _ _ (0, 0) _ rfl hkz Try.underlying23 rfl (by kernel_rfl)) rfl ⟨⟨_, by rw [HR.out]; rfl, fun e1 e2 => absurd (And.intro e1 e2) HNO.out⟩, hbz⟩
end Go.Proofs.Ytnhggaghidbniaa
