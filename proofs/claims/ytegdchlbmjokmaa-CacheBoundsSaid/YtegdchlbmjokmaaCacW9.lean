/- The cache: Push, the walks. -/
import Derived.Test.YtegdchlbmjokmaaCacW8
import Derived.Outline
import Derived.Deep.QuietTactic
import Derived.BigQuiet
namespace Go.Proofs.Ytegdchlbmjokmaa
open Go.RowKit
set_option linter.unusedVariables false
set_option linter.unusedSimpArgs false
open Lnk

theorem cac_look_yes {w : World} {M n : Nat} {Dm : DataW Unit} {T : List CT} (h : w.ownsMap Try.prog 30 (plainElem Try.prog 3) M n Dm) (hm : MapOf Dm T) {t : CT} (ht : t ∈ T) {k : Ky} (hk : keyEq t.k k = true) :
    (Instr.lookup 53 (.map (some M)) (keyV k) true).run Try.prog w = .ok (.tuple #[.int .i64 (t.s : Int), .bool true]) w := by
  obtain ⟨c, hrun, hc⟩ := cac_look h hm k
  rw [← klit_congr hk, hm.at_ t ht] at hc
  injection hc with hc
  injection hc with _ hc
  have : (T.any fun t => keyEq t.k k) = true := (List.any_eq_true (p := fun t : CT => keyEq t.k k) (l := T)).2 ⟨t, ht, hk⟩
  rw [hrun, ← hc, this]
theorem cac_look_no {w : World} {M n : Nat} {Dm : DataW Unit} {T : List CT} (h : w.ownsMap Try.prog 30 (plainElem Try.prog 3) M n Dm) (hm : MapOf Dm T) {k : Ky} (hno : (T.any fun t => keyEq t.k k) = false) :
    ∃ c : Int, (Instr.lookup 53 (.map (some M)) (keyV k) true).run Try.prog w = .ok (.tuple #[.int .i64 c, .bool false]) w := by
  obtain ⟨c, hrun, hc⟩ := cac_look h hm k
  rw [hno] at hrun
  exact ⟨c, hrun⟩
theorem step_put_key {ops : Array Oper} {o : Oper} {a : Act} {w : World} {K : Act → World → Prop} {Q : Exit → Act → World → Prop} {E : Prop} (hgd : o.guard = none) (m x y : Operand)
    (hop : o.op = .mapUpdate 53 m x y) (M n : Nat) (Dm : DataW Unit) (hm : a.eval m = .map (some M))
    (hown : w.ownsMap Try.prog 30 (plainElem Try.prog 3) M n Dm) (hn : n < 1048576) (k : Ky) (hx : a.eval x = .agg (bytesOf 32 k).toArray) (s : Nat) (hs : s < 1048576) (hy : a.eval y = .int .i64 (s : Int))
    (hK : ∀ w', w'.ownsMap Try.prog 30 (plainElem Try.prog 3) M (n + 1) (Dm.put (klit k) (.lit (.int .i64 (s : Int)))) → w.mapTurned w' M → K (a.put o.dst undef) w') :
    if Region.wanted o (yielded ops a.tmps) = true then Oper.wp Try.prog o a w K Q else E := by
  have hw : Region.wanted o (yielded ops a.tmps) = true := by simp [Region.wanted, hgd]
  rw [if_pos hw]
  obtain ⟨w', hrun, r1, r2⟩ := hown.store key_keyed Try.underlying53 (by unfold maxLen; omega) (klit_of k) (plainElem_int (a := (s : Int)) Try.underlying3 (by simp [Lit.wf, IntKind.min, IntKind.max, IntKind.signed, IntKind.bits]; omega))
  unfold Oper.wp
  simp [execOp, hop, hm, hx, hy, hrun, Result.andThen]
  exact hK w' r1 r2
theorem CPost.trans {w w1 w' : World} {B C sz : Nat} {kb kb1 : Option Nat} {L : List Ky} {v : Value} {e : Ending} (ho : Only (CFoot w B kb) w w1) (hk : kb1 = kb ∨ ∀ g, kb1 = some g → w.heap.size ≤ g) (h : CPost w1 B C sz kb1 L v e w') : CPost w B C sz kb L v e w' := by
  obtain ⟨h1, h2, kb', h3, h4⟩ := h
  refine ⟨h1, ho.trans h2 (CFoot.back (CFoot w B kb) ho (fun g hg => hg) hk), kb', ?_, h4⟩
  rcases h3 with rfl | h3
  · exact hk
  · exact .inr (fun g hg => Nat.le_trans ho.size (h3 g hg))
set_option maxRecDepth 100000 in
set_option maxHeartbeats 2000000 in
attribute [local go_sem ↓] wp_load_k in
theorem push_there (w : World) (B C sz : Nat) (T : List CT) (D : Nat) (rv : Value) (r : R) (kv : Value) (Ks : List Ky) (fv : Value) (F : List Nat) (M : Nat) (Dm : DataW Unit) (h : CaAt w B C sz T D rv r kv Ks fv F M Dm) (hB : B ≤ w.heap.size)
    (k : Ky) (i : Nat) (t : CT) (ht : T[i]? = some t) (hk : keyEq t.k k = true) :
    Calls Try.prog 12 #[.pointer (some ⟨C, 0, none⟩), keyV k] w (CPost w B C sz kv.ownBlock (lackT (T.map CT.k) i ++ [k]) (.bool false)) := by
  obtain ⟨cx, hcx⟩ : ∃ cx, (bytesOf 32 k).toArray = cx := ⟨_, rfl⟩
  show Calls _ _ #[_, .agg (bytesOf 32 k).toArray] _ _
  rw [hcx]
  have hTl : T.length ≤ 1024 := by have := h.inv.len; have := h.inv.le; have := h.sz; omega
  have hFl : F.length ≤ 1024 := by have := h.inv.len; have := h.inv.le; have := h.sz; omega
  have hKl : Ks.length ≤ 1024 := by have := h.inv.le; have := h.sz; omega
  have HCX := Lib.hid hcx
  have HC := Lib.hid h
  have HT := Lib.hid ht
  have HK := Lib.hid hk
  clear ht hk
  clear hcx h
  go_enter Try.func12, Try.ntmps12
  go_upto_region 1 with (fail)
  generalize hwa : World.alloc w _ = wa
  have hb0 : Below w.heap.size w wa := by rw [← hwa]; exact (Below.refl _ _).alloc (Nat.le_refl _) _
  have hk3 : Blk wa w.heap.size 30 (bytesOf 32 k).toArray := by rw [← hwa, HCX.out]; exact Blk.new w _ _
  have hc0 := HC.out.below hb0
  have x0 : wa.cell? ⟨C, 0, none⟩ = some (.int .i64 (sz : Int)) := hc0.blk.cell 0
  have x1 : wa.cell? ⟨C, 1, none⟩ = some (.pointer (some ⟨D, 0, none⟩)) := hc0.blk.cell 1
  have x4 : wa.cell? ⟨C, 4, none⟩ = some (.map (some M)) := hc0.blk.cell 4
  have q1 := keyOk_mk (blk_key (W := wa.drew) hk3)
  have q2 := loadK_eq (blk_key (W := wa.drew) hk3)
  have hlk := cac_look_yes (w := wa.drew) hc0.map hc0.mp (List.mem_of_getElem? HT.out) HK.out
  have HB0 := Lib.hid hb0
  have HC0 := Lib.hid hc0
  have HK3 := Lib.hid hk3
  have hz0 := hb0.size
  clear hwa hb0 hc0 hk3
  go_wp2_with fail
  go_region
  all_goals (first | rfl | skip)
  go_wp2_with fail
  refine (lmov_any wa.drew B D rv r (t.s : Int) (HC0.out.lis.below (below_drewN (Below.refl _ wa) 1)) (by show B ≤ wa.heap.size; omega) (by rw [HC.out.el, List.length_map]; omega)).mono ?_
  rintro e w2 ⟨rfl, ho2, rv2, hl2⟩
  have HO2 := Lib.hid ho2
  have HL2 := Lib.hid hl2
  clear ho2 hl2
  go_wp2_with fail
  go_ret
  exact push_end_move HC.out HB0.out HT.out HK.out HO2.out.of_drew HL2.out
set_option maxRecDepth 100000 in
set_option maxHeartbeats 2000000 in
attribute [local go_sem ↓] wp_load_k in
theorem push_zero (w : World) (B C sz : Nat) (T : List CT) (D : Nat) (rv : Value) (r : R) (kv : Value) (Ks : List Ky) (fv : Value) (F : List Nat) (M : Nat) (Dm : DataW Unit) (h : CaAt w B C sz T D rv r kv Ks fv F M Dm) (hB : B ≤ w.heap.size)
    (k : Ky) (hno : (T.any fun t => keyEq t.k k) = false) (hsz : sz = 0) :
    Calls Try.prog 12 #[.pointer (some ⟨C, 0, none⟩), keyV k] w (CPost w B C sz kv.ownBlock (T.map CT.k) (.bool true)) := by
  obtain ⟨cx, hcx⟩ : ∃ cx, (bytesOf 32 k).toArray = cx := ⟨_, rfl⟩
  show Calls _ _ #[_, .agg (bytesOf 32 k).toArray] _ _
  rw [hcx]
  have hTl : T.length ≤ 1024 := by have := h.inv.len; have := h.inv.le; have := h.sz; omega
  have hFl : F.length ≤ 1024 := by have := h.inv.len; have := h.inv.le; have := h.sz; omega
  have hKl : Ks.length ≤ 1024 := by have := h.inv.le; have := h.sz; omega
  have HCX := Lib.hid hcx
  have HC := Lib.hid h
  have HNO := Lib.hid hno
  have HSZ := Lib.hid hsz
  clear hno hsz
  clear hcx h
  go_enter Try.func12, Try.ntmps12
  go_upto_region 1 with (fail)
  generalize hwa : World.alloc w _ = wa
  have hb0 : Below w.heap.size w wa := by rw [← hwa]; exact (Below.refl _ _).alloc (Nat.le_refl _) _
  have hk3 : Blk wa w.heap.size 30 (bytesOf 32 k).toArray := by rw [← hwa, HCX.out]; exact Blk.new w _ _
  have hc0 := HC.out.below hb0
  have x0 : wa.cell? ⟨C, 0, none⟩ = some (.int .i64 (sz : Int)) := hc0.blk.cell 0
  have x1 : wa.cell? ⟨C, 1, none⟩ = some (.pointer (some ⟨D, 0, none⟩)) := hc0.blk.cell 1
  have x4 : wa.cell? ⟨C, 4, none⟩ = some (.map (some M)) := hc0.blk.cell 4
  have q1 := keyOk_mk (blk_key (W := wa.drew) hk3)
  have q2 := loadK_eq (blk_key (W := wa.drew) hk3)
  obtain ⟨cv, hlk⟩ := cac_look_no (w := wa.drew) hc0.map hc0.mp HNO.out
  rw [HSZ.out] at x0
  change _ = some (Value.int .i64 (0 : Int)) at x0
  have HB0 := Lib.hid hb0
  have HC0 := Lib.hid hc0
  have HK3 := Lib.hid hk3
  have hz0 := hb0.size
  clear hwa hb0 hc0 hk3
  go_wp2_with fail
  go_region
  all_goals (first | rfl | skip)
  go_wp2_with fail
  go_ret
  exact ⟨rfl, Only.of_below _ (below_drewN HB0.out 1), kv.ownBlock, .inl rfl, D, rv, r, kv, Ks, fv, F, M, Dm, T, HC.out.below (below_drewN HB0.out 1), rfl, rfl⟩
set_option maxRecDepth 100000 in
set_option maxHeartbeats 2000000 in
attribute [local go_sem ↓] wp_load_k in
theorem push_room (w : World) (B C sz : Nat) (T : List CT) (D : Nat) (rv : Value) (r : R) (kv : Value) (Ks : List Ky) (fv : Value) (F : List Nat) (M : Nat) (Dm : DataW Unit) (h : CaAt w B C sz T D rv r kv Ks fv F M Dm) (hB : B ≤ w.heap.size)
    (k : Ky) (hno : (T.any fun t => keyEq t.k k) = false) (hroom : T.length < sz) :
    Calls Try.prog 12 #[.pointer (some ⟨C, 0, none⟩), keyV k] w (CPost w B C sz kv.ownBlock (T.map CT.k ++ [k]) (.bool true)) := by
  obtain ⟨cx, hcx⟩ : ∃ cx, (bytesOf 32 k).toArray = cx := ⟨_, rfl⟩
  show Calls _ _ #[_, .agg (bytesOf 32 k).toArray] _ _
  rw [hcx]
  have hTl : T.length ≤ 1024 := by have := h.inv.len; have := h.inv.le; have := h.sz; omega
  have hFl : F.length ≤ 1024 := by have := h.inv.len; have := h.inv.le; have := h.sz; omega
  have hKl : Ks.length ≤ 1024 := by have := h.inv.le; have := h.sz; omega
  have HCX := Lib.hid hcx
  have HC := Lib.hid h
  have HNO := Lib.hid hno
  clear hno
  clear hcx h
  go_enter Try.func12, Try.ntmps12
  go_upto_region 1 with (fail)
  generalize hwa : World.alloc w _ = wa
  have hb0 : Below w.heap.size w wa := by rw [← hwa]; exact (Below.refl _ _).alloc (Nat.le_refl _) _
  have hk3 : Blk wa w.heap.size 30 (bytesOf 32 k).toArray := by rw [← hwa, HCX.out]; exact Blk.new w _ _
  have hc0 := HC.out.below hb0
  have x0 : wa.cell? ⟨C, 0, none⟩ = some (.int .i64 (sz : Int)) := hc0.blk.cell 0
  have x1 : wa.cell? ⟨C, 1, none⟩ = some (.pointer (some ⟨D, 0, none⟩)) := hc0.blk.cell 1
  have x4 : wa.cell? ⟨C, 4, none⟩ = some (.map (some M)) := hc0.blk.cell 4
  have q1 := keyOk_mk (blk_key (W := wa.drew) hk3)
  have q2 := loadK_eq (blk_key (W := wa.drew) hk3)
  obtain ⟨cv, hlk⟩ := cac_look_no (w := wa.drew) hc0.map hc0.mp HNO.out
  have hlen : ∀ ty, (Builtin.len_ #[53] ty #[.map (some M)]).run Try.prog wa.drew.drew = .ok (.int .i64 (T.length : Int)) wa.drew.drew := fun ty => by
    have := (show wa.drew.drew.ownsMap Try.prog 30 (plainElem Try.prog 3) M (Maps.size Dm) Dm from hc0.map).len Try.underlying53 ty
    rw [hc0.mp.size] at this
    exact this
  have hs0 : ((sz : Int) == 0) = false := by simp; omega
  have hsn : ((T.length : Int) == (sz : Int)) = false := by simp; omega
  have HB0 := Lib.hid hb0
  have HC0 := Lib.hid hc0
  have HK3 := Lib.hid hk3
  have hz0 := hb0.size
  clear hwa hb0 hc0 hk3
  go_wp2_with fail
  go_region
  all_goals (first | rfl | skip)
  go_wp2_with fail
  go_region
  go_upto_region 12 with (fail)
  generalize hw1 : World.drew (World.drew wa) = w1
  have hb1 : Below wa.heap.size wa w1 := by rw [← hw1]; exact below_drewN (Below.refl _ wa) 2
  have hz1 : w.heap.size ≤ w1.heap.size := Nat.le_trans hz0 hb1.size
  have hc1 := HC0.out.below hb1
  have hkb1 := HK3.out.below hb1 HK3.out.lt
  have hkn : kv.ownBlock ≠ some w.heap.size := fun e => by have := (HC.out.ks.lt _ e).2; omega
  have HB1 := Lib.hid (HB0.out.trans (hb1.mono hz0))
  have HC1 := Lib.hid hc1
  have HKB1 := Lib.hid hkb1
  have HKN := Lib.hid hkn
  clear hw1 hb1 hc1 hkb1 hkn hlen hlk q1 q2 x0 x1 x4 hs0 hsn HK3
  have hu := Try.underlying30
  have hik := key_size k
  have hc1d := HC1.out.below (w' := w1.drew) (below_drewN (Below.refl _ w1) 1)
  have HC1D := Lib.hid hc1d
  clear hc1d
  have hS1 : w1.cell? ⟨C, 4, none⟩ = some (.map (some M)) ∧ w1.cell? ⟨C, 1, none⟩ = some (.pointer (some ⟨D, 0, none⟩)) ∧ w1.rangeAt w.heap.size 0 (bytesOf 32 k) := ⟨HC1.out.blk.cell 4, HC1.out.blk.cell 1, blk_range HKB1.out⟩
  obtain ⟨pI, hpI⟩ : ∃ i, plI Ks F = i := ⟨_, rfl⟩
  obtain ⟨sR, hsR⟩ : ∃ i, slotR r = i := ⟨_, rfl⟩
  have HPI := Lib.hid hpI
  have HSR := Lib.hid hsR
  have hsb : sR < 1048576 := by
    rw [← hsR]
    have h1 := HC1.out.us
    have h2 := HC1.out.sz
    have h3 := HC1.out.uef
    obtain ⟨c0, _, hr⟩ := HC1.out.lis
    unfold slotR
    rcases Nat.eq_zero_or_pos r.F.length with h0 | h0
    · rw [h0]; simp [freeAt]; omega
    · obtain ⟨m, hm⟩ : ∃ m, r.F.length = m + 1 := ⟨r.F.length - 1, by omega⟩
      have hlt : m < r.F.length := by omega
      rw [hm, freeAt_succ, List.getElem?_eq_getElem hlt]
      have := (hr.ff m _ (List.getElem?_eq_getElem hlt)).1
      simp
      omega
  clear hpI hsR
  refine wp_region_noPanic ?_
  refine wp_region_held_drew (S := fun w' => w'.cell? ⟨C, 4, none⟩ = some (.map (some M)) ∧ w'.cell? ⟨C, 1, none⟩ = some (.pointer (some ⟨D, 0, none⟩)) ∧ w'.rangeAt w.heap.size 0 (bytesOf 32 k)) (by kernel_rfl) hS1 (fun hHeld => ?_)
  refine wpAnyH_take (i := 0) (oi := ⟨some 64, _, _, _, _, _⟩) (v := ?_) rfl (by kernel_rfl) (by kernel_rfl) (by kernel_rfl) (fun _ _ _ h => h) (Or.inl ⟨by kernel_rfl, ?_⟩) hHeld ?_
  rotate_left
  · intro w hSw
    obtain ⟨sm, so, sk⟩ := hSw
    go_simp
    all_goals (with_reducible rfl)
  conv => arg 8; simp only [Act.put, List.setIfInBounds_toArray, List.set_cons_zero, List.set_cons_succ]
  refine wpAnyH_take (i := 1) (oi := ⟨some 65, _, _, _, _, _⟩) (v := ?_) rfl (by kernel_rfl) (by kernel_rfl) (by kernel_rfl) (fun _ _ _ h => h) (Or.inl ⟨by kernel_rfl, ?_⟩) hHeld ?_
  rotate_left
  · intro w hSw
    obtain ⟨sm, so, sk⟩ := hSw
    go_simp
    all_goals (with_reducible rfl)
  conv => arg 8; simp only [Act.put, List.setIfInBounds_toArray, List.set_cons_zero, List.set_cons_succ]
  refine wpAnyH_take (i := 2) (oi := ⟨some 66, _, _, _, _, _⟩) (v := ?_) rfl (by kernel_rfl) (by kernel_rfl) (by kernel_rfl) (fun _ _ _ h => h) (Or.inl ⟨by kernel_rfl, ?_⟩) hHeld ?_
  rotate_left
  · intro w hSw
    obtain ⟨sm, so, sk⟩ := hSw
    go_simp
    all_goals (with_reducible rfl)
  conv => arg 8; simp only [Act.put, List.setIfInBounds_toArray, List.set_cons_zero, List.set_cons_succ]
  refine wpAnyH_take (i := 3) (oi := ⟨some 67, _, _, _, _, _⟩) (v := ?_) rfl (by kernel_rfl) (by kernel_rfl) (by kernel_rfl) (fun _ _ _ h => h) (Or.inl ⟨by kernel_rfl, ?_⟩) hHeld ?_
  rotate_left
  · intro w hSw
    obtain ⟨sm, so, sk⟩ := hSw
    go_simp
    all_goals (with_reducible rfl)
  conv => arg 8; simp only [Act.put, List.setIfInBounds_toArray, List.set_cons_zero, List.set_cons_succ]
  refine wpAnyH_take (i := 4) (oi := ⟨some 68, _, _, _, _, _⟩) (v := _) rfl (by kernel_rfl) (by kernel_rfl) (by kernel_rfl) (fun _ _ _ h => h) (yieldsIf_load_mid (S := fun w' => w'.cell? ⟨C, 4, none⟩ = some (.map (some M)) ∧ w'.cell? ⟨C, 1, none⟩ = some (.pointer (some ⟨D, 0, none⟩)) ∧ w'.rangeAt w.heap.size 0 (bytesOf 32 k)) (by kernel_rfl) _ _ rfl _ _ rfl _ _ (fun w hSw => hSw.2.2) hu rfl hik) hHeld ?_
  conv => arg 8; simp only [Act.put, List.setIfInBounds_toArray, List.set_cons_zero, List.set_cons_succ]
  refine wpAnyH_take (i := 5) (oi := ⟨some 69, _, _, _, _, _⟩) (v := ?_) rfl (by kernel_rfl) (by kernel_rfl) (by kernel_rfl) (fun _ _ _ h => h) (Or.inl ⟨by kernel_rfl, ?_⟩) hHeld ?_
  rotate_left
  · intro w hSw
    obtain ⟨sm, so, sk⟩ := hSw
    go_simp
    all_goals (with_reducible rfl)
  conv => arg 8; simp only [Act.put, List.setIfInBounds_toArray, List.set_cons_zero, List.set_cons_succ]
  refine wpAnyH_take (i := 6) (oi := ⟨some 70, _, _, _, _, _⟩) (v := ?_) rfl (by kernel_rfl) (by kernel_rfl) (by kernel_rfl) (fun _ _ _ h => h) (Or.inl ⟨by kernel_rfl, ?_⟩) hHeld ?_
  rotate_left
  · intro w hSw
    obtain ⟨sm, so, sk⟩ := hSw
    go_simp
    all_goals (with_reducible rfl)
  conv => arg 8; simp only [Act.put, List.setIfInBounds_toArray, List.set_cons_zero, List.set_cons_succ]
  refine wpAnyH_take (i := 7) (oi := ⟨some 71, _, _, _, _, _⟩) (v := ?_) rfl (by kernel_rfl) (by kernel_rfl) (by kernel_rfl) (fun _ _ _ h => h) (Or.inl ⟨by kernel_rfl, ?_⟩) hHeld ?_
  rotate_left
  · intro w hSw
    obtain ⟨sm, so, sk⟩ := hSw
    go_simp
    all_goals (with_reducible rfl)
  conv => arg 8; simp only [Act.put, List.setIfInBounds_toArray, List.set_cons_zero, List.set_cons_succ]
  refine wpAnyH_take (i := 8) (oi := ⟨some 72, _, _, _, _, _⟩) (v := ?_) rfl (by kernel_rfl) (by kernel_rfl) (by kernel_rfl) (fun _ _ _ h => h) (Or.inl ⟨by kernel_rfl, ?_⟩) hHeld ?_
  rotate_left
  · intro w hSw
    obtain ⟨sm, so, sk⟩ := hSw
    go_simp
    all_goals (with_reducible rfl)
  conv => arg 8; simp only [Act.put, List.setIfInBounds_toArray, List.set_cons_zero, List.set_cons_succ]
  refine wpAnyH_take (i := 9) (oi := ⟨some 73, _, _, _, _, _⟩) (v := ?_) rfl (by kernel_rfl) (by kernel_rfl) (by kernel_rfl) (fun _ _ _ h => h) (Or.inl ⟨by kernel_rfl, ?_⟩) hHeld ?_
  rotate_left
  · intro w hSw
    obtain ⟨sm, so, sk⟩ := hSw
    go_simp
    all_goals (with_reducible rfl)
  conv => arg 8; simp only [Act.put, List.setIfInBounds_toArray, List.set_cons_zero, List.set_cons_succ]
  refine wpAnyH_take (i := 10) (oi := ⟨some 74, _, _, _, _, _⟩) (v := _) rfl (by kernel_rfl) (by kernel_rfl) (by kernel_rfl) (fun _ _ _ h => h) (yieldsIf_load_mid (S := fun w' => w'.cell? ⟨C, 4, none⟩ = some (.map (some M)) ∧ w'.cell? ⟨C, 1, none⟩ = some (.pointer (some ⟨D, 0, none⟩)) ∧ w'.rangeAt w.heap.size 0 (bytesOf 32 k)) (by kernel_rfl) _ _ rfl _ _ rfl _ _ (fun w hSw => hSw.2.2) hu rfl hik) hHeld ?_
  conv => arg 8; simp only [Act.put, List.setIfInBounds_toArray, List.set_cons_zero, List.set_cons_succ]
  refine wpAnyH_ready (rs := [11]) (by kernel_rfl) (by simp) ?_
  refine AllReadyH.cons (o := ⟨some 75, _, _, _, _, _⟩) rfl (fun K hK => ?_) AllReadyH.nil
  go_simp
  go_at_call 30
  (with_reducible refine (cplace_any w1.drew B C _ _ _ kv fv Ks F k HC1D.out.blk (by simp; omega) HC1D.out.ks HC1D.out.fr (fun i hi => HC1D.out.inv.lt i (List.mem_append_right _ hi)) (by omega) (by omega)).mono ?_)
  rintro e w9 hp9
  have he9 := hp9.1
  rw [HPI.out] at he9
  subst he9
  have ho9 := hp9.2.1
  have hl9 := HC1D.out.after_place ho9
  have hb9 : ∃ kv2 fv2, Blk w9 C 55 #[.int .i64 (sz : Int), .pointer (some ⟨D, 0, none⟩), kv2, fv2, .map (some M)] := by
    obtain ⟨_, _, kv2, fv2, _, _, h2, _⟩ := hp9
    exact ⟨kv2, fv2, h2⟩
  obtain ⟨kv2, fv2, hb9⟩ := hb9
  have hkb9 := (HKB1.out.drew).only ho9 (fun e => by
    rcases e with e | e
    · exact Blk.ne_ HKB1.out HC1.out.blk (by decide) e
    · exact HKN.out e)
  have hz9 : w1.heap.size ≤ w9.heap.size := ho9.size
  have HP9 := Lib.hid hp9
  have HL9 := Lib.hid hl9.1
  have HM9 := Lib.hid hl9.2
  have HB9 := Lib.hid hb9
  have HKB9 := Lib.hid hkb9
  clear hp9 ho9 hl9 hb9 hkb9
  refine hK.out _ _ ⟨HB9.out.cell 4, HB9.out.cell 1, blk_range HKB9.out⟩ (fun hHeld => ?_)
  clear hK K
  conv => arg 8; simp only [Act.put, List.setIfInBounds_toArray, List.set_cons_zero, List.set_cons_succ]
  refine wpAnyH_ready (rs := [12]) (by kernel_rfl) (by simp) ?_
  refine AllReadyH.cons (o := ⟨some 76, _, _, _, _, _⟩) rfl (fun K hK => ?_) AllReadyH.nil
  go_simp
  go_at_call 29
  (with_reducible refine (lpb_any w9 B D rv r (pI : Int) HL9.out (by omega) (by have := HC1.out.us; have := HC1.out.sz; omega) (by rw [HC1.out.el, List.length_map]; omega)).mono ?_)
  rintro e w10 ⟨rfl, ho10, rv10, hl10⟩
  rw [HSR.out]
  have hb10 := HL9.out.blk_ne HB9.out (by decide) (by decide) ho10
  have hkb10 := HL9.out.blk_ne HKB9.out (by decide) (by decide) ho10
  have hm10 := map_only HM9.out ho10 HC1.out.foot_map.1
  have HO10 := Lib.hid ho10
  have HL10 := Lib.hid hl10
  have HB10 := Lib.hid hb10
  have HKB10 := Lib.hid hkb10
  have HM10 := Lib.hid hm10
  clear ho10 hl10 hb10 hkb10 hm10
  refine hK.out _ _ ⟨HB10.out.cell 4, HB10.out.cell 1, blk_range HKB10.out⟩ (fun hHeld => ?_)
  clear hK K
  conv => arg 8; simp only [Act.put, List.setIfInBounds_toArray, List.set_cons_zero, List.set_cons_succ]
  refine wpAnyH_ready (rs := [13]) (by kernel_rfl) (by simp) ?_
  refine AllReadyH.cons (o := ⟨none, _, _, _, _, _⟩) rfl (fun K hK => ?_) AllReadyH.nil
  refine step_put_key rfl (.tmp 67) (.tmp 68) (.tmp 76) (by rfl) M _ Dm (by rfl) HM10.out (by rw [HC1.out.mp.size]; omega) k (by rfl) sR hsb (by rfl) ?_
  intro w11 hm11 ht11
  have ho11 : Only (fun g => M = g) w10 w11 := (Only.of_grown ht11.grown).mono (fun g hg => Option.some.inj hg)
  have hnb : ∀ {g : Nat} {t : TypeId} {cs : Array Value}, Blk w10 g t cs → M ≠ g := by
    rintro g t cs hh rfl
    obtain ⟨es, c, hM⟩ := map_blk HM10.out
    unfold Blk at hh
    rw [hM] at hh
    cases hh
  have hb11 := HB10.out.only ho11 (hnb HB10.out)
  have hkb11 := HKB10.out.only ho11 (hnb HKB10.out)
  have HM11 := Lib.hid hm11
  have HO11 := Lib.hid ho11
  clear hm11 ht11 ho11 hnb
  refine hK.out _ _ ⟨hb11.cell 4, hb11.cell 1, blk_range hkb11⟩ (fun hHeld => ?_)
  clear hK K hb11 hkb11
  conv => arg 8; simp only [Act.put, List.setIfInBounds_toArray, List.set_cons_zero, List.set_cons_succ]
  refine wpAnyH_done (by kernel_rfl) ?_ _
  refine NoPanic.normal ?_
  go_wp2_with fail
  go_ret
  exact CPost.trans (Only.of_below _ (below_drewN HB1.out 1)) (.inl rfl) (push_end_add HC1D.out hroom HNO.out HP9.out HO10.out (by rw [HPI.out]; exact HL10.out) HO11.out (by rw [HSR.out]; exact HM11.out))
set_option maxRecDepth 100000 in
set_option maxHeartbeats 2000000 in
attribute [local go_sem ↓] wp_load_k in
theorem push_full (w : World) (B C sz : Nat) (T : List CT) (D : Nat) (rv : Value) (r : R) (kv : Value) (Ks : List Ky) (fv : Value) (F : List Nat) (M : Nat) (Dm : DataW Unit) (h : CaAt w B C sz T D rv r kv Ks fv F M Dm) (hB : B ≤ w.heap.size)
    (k : Ky) (t0 : CT) (ht : T[0]? = some t0) (hno : (T.any fun t => keyEq t.k k) = false) (hfull : T.length = sz) :
    Calls Try.prog 12 #[.pointer (some ⟨C, 0, none⟩), keyV k] w (CPost w B C sz kv.ownBlock ((lackT T 0).map CT.k ++ [k]) (.bool true)) := by
  obtain ⟨cx, hcx⟩ : ∃ cx, (bytesOf 32 k).toArray = cx := ⟨_, rfl⟩
  show Calls _ _ #[_, .agg (bytesOf 32 k).toArray] _ _
  rw [hcx]
  have hTl : T.length ≤ 1024 := by have := h.inv.len; have := h.inv.le; have := h.sz; omega
  have hFl : F.length ≤ 1024 := by have := h.inv.len; have := h.inv.le; have := h.sz; omega
  have hKl : Ks.length ≤ 1024 := by have := h.inv.le; have := h.sz; omega
  have HCX := Lib.hid hcx
  have HC := Lib.hid h
  have hT0 : 0 < T.length := by
    rcases Nat.eq_zero_or_pos T.length with h0 | h0
    · rw [List.getElem?_eq_none (by omega)] at ht; cases ht
    · exact h0
  have hsz1 : 0 < sz := by omega
  have hll := lackT_len ht
  have hzz : (lackT T 0).length < sz := by omega
  have hTl2 : (lackT T 0).length ≤ 1024 := by omega
  have hFl2 : (F ++ [t0.i]).length ≤ 1025 := by simp; omega
  have HNO := Lib.hid hno
  have HNO2 : Hid (((lackT T 0).any fun t => keyEq t.k k) = false) := by
    have h2 := hno
    rw [lackT_any ht] at h2
    simp only [Bool.or_eq_false_iff] at h2
    exact h2.1
  have HFU := Lib.hid hfull
  have HT := Lib.hid ht
  clear hno hfull ht hll
  clear hcx h
  go_enter Try.func12, Try.ntmps12
  go_upto_region 1 with (fail)
  generalize hwa : World.alloc w _ = wa
  have hb0 : Below w.heap.size w wa := by rw [← hwa]; exact (Below.refl _ _).alloc (Nat.le_refl _) _
  have hk3 : Blk wa w.heap.size 30 (bytesOf 32 k).toArray := by rw [← hwa, HCX.out]; exact Blk.new w _ _
  have hc0 := HC.out.below hb0
  have x0 : wa.cell? ⟨C, 0, none⟩ = some (.int .i64 (sz : Int)) := hc0.blk.cell 0
  have x1 : wa.cell? ⟨C, 1, none⟩ = some (.pointer (some ⟨D, 0, none⟩)) := hc0.blk.cell 1
  have x4 : wa.cell? ⟨C, 4, none⟩ = some (.map (some M)) := hc0.blk.cell 4
  have q1 := keyOk_mk (blk_key (W := wa.drew) hk3)
  have q2 := loadK_eq (blk_key (W := wa.drew) hk3)
  obtain ⟨cv, hlk⟩ := cac_look_no (w := wa.drew) hc0.map hc0.mp HNO.out
  have hlen : ∀ ty, (Builtin.len_ #[53] ty #[.map (some M)]).run Try.prog wa.drew.drew = .ok (.int .i64 (sz : Int)) wa.drew.drew := fun ty => by
    have := (show wa.drew.drew.ownsMap Try.prog 30 (plainElem Try.prog 3) M (Maps.size Dm) Dm from hc0.map).len Try.underlying53 ty
    rw [hc0.mp.size, HFU.out] at this
    exact this
  have hs0 : ((sz : Int) == 0) = false := by simp; omega
  have HB0 := Lib.hid hb0
  have HC0 := Lib.hid hc0
  have HK3 := Lib.hid hk3
  have hz0 := hb0.size
  clear hwa hb0 hc0 hk3
  go_wp2_with fail
  go_region
  all_goals (first | rfl | skip)
  go_wp2_with fail
  go_region
  go_upto_region 10 with (fail)
  generalize hw3 : World.drew (World.drew wa) = w3
  have hb3 : Below wa.heap.size wa w3 := by rw [← hw3]; exact below_drewN (Below.refl _ wa) 2
  have hz3 : w.heap.size ≤ w3.heap.size := Nat.le_trans hz0 hb3.size
  have hc3 := HC0.out.below hb3
  have hkb3 := HK3.out.below hb3 HK3.out.lt
  have y1 : w3.cell? ⟨C, 1, none⟩ = some (.pointer (some ⟨D, 0, none⟩)) := hc3.blk.cell 1
  have HF : Hid (∀ n, Calls Try.prog 28 #[.pointer (some ⟨D, 0, none⟩)] (w3.drewN n) fun e w' => e = .returned (.int .i64 (t0.s : Int)) ∧ w' = w3.drewN n) := fun n => by
    have h1 := lfst_any (w3.drewN n) B D rv r (hc3.lis.below (below_drewN (Below.refl _ w3) n))
    have h2 : slotAt r.E 0 = some t0.s := by unfold slotAt; rw [HC.out.el, List.getElem?_map, HT.out]; rfl
    rw [h2] at h1
    exact h1.mono (fun e w' hh => ⟨hh.1, hh.2.symm⟩)
  have HV : Hid (∀ n, Calls Try.prog 27 #[.pointer (some ⟨D, 0, none⟩), .int .i64 (t0.s : Int)] (w3.drewN n) fun e w' => e = .returned (.tuple #[.int .i64 (t0.i : Int), .bool true]) ∧ w' = w3.drewN n) := fun n => by
    have h1 := lval_any (w3.drewN n) B D rv r (t0.s : Int) (hc3.lis.below (below_drewN (Below.refl _ w3) n))
    rw [HC.out.el, value_pair HC.out.inv.sl HT.out, place_pair HC.out.inv.sl HT.out] at h1
    exact h1.mono (fun e w' hh => ⟨hh.1, hh.2.symm⟩)
  have HB3 := Lib.hid (HB0.out.trans (hb3.mono hz0))
  have HC3 := Lib.hid hc3
  have HKB3 := Lib.hid hkb3
  clear hw3 hb3 hc3 hkb3 hlen hlk q1 q2 x0 x1 x4 hs0 HK3
  go_quiet (first | (go_at_call 28; exact Calls.quiet_of_same (HF.out _)) | (go_at_call 27; exact Calls.quiet_of_same (HV.out _)))
  go_upto_region 11 with (fail)
  generalize hw4 : World.drewN w3 nq = w4
  have hb4 : Below w3.heap.size w3 w4 := by rw [← hw4]; exact below_drewN (Below.refl _ w3) nq
  have hz4 : w.heap.size ≤ w4.heap.size := Nat.le_trans hz3 hb4.size
  have hc4 := HC3.out.below hb4
  have hkb4 := HKB3.out.below hb4 HKB3.out.lt
  have hki : Ks[t0.i]? = some t0.k := HC.out.inv.key t0 (List.mem_of_getElem? HT.out)
  have hil : t0.i < Ks.length := (List.getElem?_eq_some_iff.1 hki).1
  obtain ⟨gk, ck, hkv, _, _⟩ := hc4.ks.form (by omega)
  have hkr := hc4.ks
  have x2 : w4.cell? ⟨C, 2, none⟩ = some (.slice (some ⟨gk, 0, none⟩) Ks.length ck) := by rw [← hkv]; exact hc4.blk.cell 2
  rw [hkv] at hkr
  have q3 : ∀ j u, (bytesOf 32 t0.k)[j]? = some u → w4.cell? ((⟨gk, t0.i * 32, none⟩ : Addr).add j) = some u := fun j u hu => by
    have h1 := (KeysAt.of_own hkr).at_
    obtain ⟨g, o, hA, h2⟩ := h1
    have hA' := hA (by omega)
    injection hA' with hA'
    injection hA' with e1 e2
    subst e1 e2
    obtain ⟨kk, hkk, h3⟩ := h2 t0.i hil
    rw [hki] at hkk
    injection hkk with hkk
    subst hkk
    rw [Nat.zero_add] at h3
    exact h3 j u hu
  have q1 := keyOk_mk q3
  have q2 := loadK_eq q3
  have HB4 := Lib.hid (HB3.out.trans (hb4.mono hz3))
  have HC4 := Lib.hid hc4
  have HKB4 := Lib.hid hkb4
  have HCR := Lib.hid (crem_yes w4 B C sz T D rv r kv Ks fv F M Dm hc4 (by omega) 0 t0 HT.out t0.k (keyEq_refl _))
  clear hw4 hb4 hc4 hkb4 hki hkv hkr q3 HF HV y1
  go_wp2_with fail
  refine HCR.out.mono ?_
  rintro e w1 ⟨rfl, ho1, rv5, r5, fv5, Dm5, hc1⟩
  have hz1 : w.heap.size ≤ w1.heap.size := Nat.le_trans hz4 ho1.size
  have hkb1 := HKB4.out.only ho1 (fun e => by
    rcases e.2 with h2 | h2
    · cases h2
    · exact Kin.not HKB4.out (by decide) h2)
  have hkn : kv.ownBlock ≠ some w.heap.size := fun e => by have := (HC.out.ks.lt _ e).2; omega
  have HO1 := Lib.hid ho1
  have HC1 := Lib.hid hc1
  have HKB1 := Lib.hid hkb1
  have HKN := Lib.hid hkn
  clear ho1 hc1 hkb1 hkn x2 q1 q2 HCR
  go_upto_region 12 with (fail)
  have hu := Try.underlying30
  have hik := key_size k
  have hc1d := HC1.out.below (w' := w1.drew) (below_drewN (Below.refl _ w1) 1)
  have HC1D := Lib.hid hc1d
  clear hc1d
  have hS1 : w1.cell? ⟨C, 4, none⟩ = some (.map (some M)) ∧ w1.cell? ⟨C, 1, none⟩ = some (.pointer (some ⟨D, 0, none⟩)) ∧ w1.rangeAt w.heap.size 0 (bytesOf 32 k) := ⟨HC1.out.blk.cell 4, HC1.out.blk.cell 1, blk_range HKB1.out⟩
  obtain ⟨pI, hpI⟩ : ∃ i, plI Ks (F ++ [t0.i]) = i := ⟨_, rfl⟩
  obtain ⟨sR, hsR⟩ : ∃ i, slotR r5 = i := ⟨_, rfl⟩
  have HPI := Lib.hid hpI
  have HSR := Lib.hid hsR
  have hsb : sR < 1048576 := by
    rw [← hsR]
    have h1 := HC1.out.us
    have h2 := HC1.out.sz
    have h3 := HC1.out.uef
    obtain ⟨c0, _, hr⟩ := HC1.out.lis
    unfold slotR
    rcases Nat.eq_zero_or_pos r5.F.length with h0 | h0
    · rw [h0]; simp [freeAt]; omega
    · obtain ⟨m, hm⟩ : ∃ m, r5.F.length = m + 1 := ⟨r5.F.length - 1, by omega⟩
      have hlt : m < r5.F.length := by omega
      rw [hm, freeAt_succ, List.getElem?_eq_getElem hlt]
      have := (hr.ff m _ (List.getElem?_eq_getElem hlt)).1
      simp
      omega
  clear hpI hsR
  refine wp_region_noPanic ?_
  refine wp_region_held_drew (S := fun w' => w'.cell? ⟨C, 4, none⟩ = some (.map (some M)) ∧ w'.cell? ⟨C, 1, none⟩ = some (.pointer (some ⟨D, 0, none⟩)) ∧ w'.rangeAt w.heap.size 0 (bytesOf 32 k)) (by kernel_rfl) hS1 (fun hHeld => ?_)
  refine wpAnyH_take (i := 0) (oi := ⟨some 64, _, _, _, _, _⟩) (v := ?_) rfl (by kernel_rfl) (by kernel_rfl) (by kernel_rfl) (fun _ _ _ h => h) (Or.inl ⟨by kernel_rfl, ?_⟩) hHeld ?_
  rotate_left
  · intro w hSw
    obtain ⟨sm, so, sk⟩ := hSw
    go_simp
    all_goals (with_reducible rfl)
  conv => arg 8; simp only [Act.put, List.setIfInBounds_toArray, List.set_cons_zero, List.set_cons_succ]
  refine wpAnyH_take (i := 1) (oi := ⟨some 65, _, _, _, _, _⟩) (v := ?_) rfl (by kernel_rfl) (by kernel_rfl) (by kernel_rfl) (fun _ _ _ h => h) (Or.inl ⟨by kernel_rfl, ?_⟩) hHeld ?_
  rotate_left
  · intro w hSw
    obtain ⟨sm, so, sk⟩ := hSw
    go_simp
    all_goals (with_reducible rfl)
  conv => arg 8; simp only [Act.put, List.setIfInBounds_toArray, List.set_cons_zero, List.set_cons_succ]
  refine wpAnyH_take (i := 2) (oi := ⟨some 66, _, _, _, _, _⟩) (v := ?_) rfl (by kernel_rfl) (by kernel_rfl) (by kernel_rfl) (fun _ _ _ h => h) (Or.inl ⟨by kernel_rfl, ?_⟩) hHeld ?_
  rotate_left
  · intro w hSw
    obtain ⟨sm, so, sk⟩ := hSw
    go_simp
    all_goals (with_reducible rfl)
  conv => arg 8; simp only [Act.put, List.setIfInBounds_toArray, List.set_cons_zero, List.set_cons_succ]
  refine wpAnyH_take (i := 3) (oi := ⟨some 67, _, _, _, _, _⟩) (v := ?_) rfl (by kernel_rfl) (by kernel_rfl) (by kernel_rfl) (fun _ _ _ h => h) (Or.inl ⟨by kernel_rfl, ?_⟩) hHeld ?_
  rotate_left
  · intro w hSw
    obtain ⟨sm, so, sk⟩ := hSw
    go_simp
    all_goals (with_reducible rfl)
  conv => arg 8; simp only [Act.put, List.setIfInBounds_toArray, List.set_cons_zero, List.set_cons_succ]
  refine wpAnyH_take (i := 4) (oi := ⟨some 68, _, _, _, _, _⟩) (v := _) rfl (by kernel_rfl) (by kernel_rfl) (by kernel_rfl) (fun _ _ _ h => h) (yieldsIf_load_mid (S := fun w' => w'.cell? ⟨C, 4, none⟩ = some (.map (some M)) ∧ w'.cell? ⟨C, 1, none⟩ = some (.pointer (some ⟨D, 0, none⟩)) ∧ w'.rangeAt w.heap.size 0 (bytesOf 32 k)) (by kernel_rfl) _ _ rfl _ _ rfl _ _ (fun w hSw => hSw.2.2) hu rfl hik) hHeld ?_
  conv => arg 8; simp only [Act.put, List.setIfInBounds_toArray, List.set_cons_zero, List.set_cons_succ]
  refine wpAnyH_take (i := 5) (oi := ⟨some 69, _, _, _, _, _⟩) (v := ?_) rfl (by kernel_rfl) (by kernel_rfl) (by kernel_rfl) (fun _ _ _ h => h) (Or.inl ⟨by kernel_rfl, ?_⟩) hHeld ?_
  rotate_left
  · intro w hSw
    obtain ⟨sm, so, sk⟩ := hSw
    go_simp
    all_goals (with_reducible rfl)
  conv => arg 8; simp only [Act.put, List.setIfInBounds_toArray, List.set_cons_zero, List.set_cons_succ]
  refine wpAnyH_take (i := 6) (oi := ⟨some 70, _, _, _, _, _⟩) (v := ?_) rfl (by kernel_rfl) (by kernel_rfl) (by kernel_rfl) (fun _ _ _ h => h) (Or.inl ⟨by kernel_rfl, ?_⟩) hHeld ?_
  rotate_left
  · intro w hSw
    obtain ⟨sm, so, sk⟩ := hSw
    go_simp
    all_goals (with_reducible rfl)
  conv => arg 8; simp only [Act.put, List.setIfInBounds_toArray, List.set_cons_zero, List.set_cons_succ]
  refine wpAnyH_take (i := 7) (oi := ⟨some 71, _, _, _, _, _⟩) (v := ?_) rfl (by kernel_rfl) (by kernel_rfl) (by kernel_rfl) (fun _ _ _ h => h) (Or.inl ⟨by kernel_rfl, ?_⟩) hHeld ?_
  rotate_left
  · intro w hSw
    obtain ⟨sm, so, sk⟩ := hSw
    go_simp
    all_goals (with_reducible rfl)
  conv => arg 8; simp only [Act.put, List.setIfInBounds_toArray, List.set_cons_zero, List.set_cons_succ]
  refine wpAnyH_take (i := 8) (oi := ⟨some 72, _, _, _, _, _⟩) (v := ?_) rfl (by kernel_rfl) (by kernel_rfl) (by kernel_rfl) (fun _ _ _ h => h) (Or.inl ⟨by kernel_rfl, ?_⟩) hHeld ?_
  rotate_left
  · intro w hSw
    obtain ⟨sm, so, sk⟩ := hSw
    go_simp
    all_goals (with_reducible rfl)
  conv => arg 8; simp only [Act.put, List.setIfInBounds_toArray, List.set_cons_zero, List.set_cons_succ]
  refine wpAnyH_take (i := 9) (oi := ⟨some 73, _, _, _, _, _⟩) (v := ?_) rfl (by kernel_rfl) (by kernel_rfl) (by kernel_rfl) (fun _ _ _ h => h) (Or.inl ⟨by kernel_rfl, ?_⟩) hHeld ?_
  rotate_left
  · intro w hSw
    obtain ⟨sm, so, sk⟩ := hSw
    go_simp
    all_goals (with_reducible rfl)
  conv => arg 8; simp only [Act.put, List.setIfInBounds_toArray, List.set_cons_zero, List.set_cons_succ]
  refine wpAnyH_take (i := 10) (oi := ⟨some 74, _, _, _, _, _⟩) (v := _) rfl (by kernel_rfl) (by kernel_rfl) (by kernel_rfl) (fun _ _ _ h => h) (yieldsIf_load_mid (S := fun w' => w'.cell? ⟨C, 4, none⟩ = some (.map (some M)) ∧ w'.cell? ⟨C, 1, none⟩ = some (.pointer (some ⟨D, 0, none⟩)) ∧ w'.rangeAt w.heap.size 0 (bytesOf 32 k)) (by kernel_rfl) _ _ rfl _ _ rfl _ _ (fun w hSw => hSw.2.2) hu rfl hik) hHeld ?_
  conv => arg 8; simp only [Act.put, List.setIfInBounds_toArray, List.set_cons_zero, List.set_cons_succ]
  refine wpAnyH_ready (rs := [11]) (by kernel_rfl) (by simp) ?_
  refine AllReadyH.cons (o := ⟨some 75, _, _, _, _, _⟩) rfl (fun K hK => ?_) AllReadyH.nil
  go_simp
  go_at_call 30
  (with_reducible refine (cplace_any w1.drew B C _ _ _ kv fv5 Ks (F ++ [t0.i]) k HC1D.out.blk (by simp; omega) HC1D.out.ks HC1D.out.fr (fun i hi => HC1D.out.inv.lt i (List.mem_append_right _ hi)) (by omega) (by omega)).mono ?_)
  rintro e w9 hp9
  have he9 := hp9.1
  rw [HPI.out] at he9
  subst he9
  have ho9 := hp9.2.1
  have hl9 := HC1D.out.after_place ho9
  have hb9 : ∃ kv2 fv2, Blk w9 C 55 #[.int .i64 (sz : Int), .pointer (some ⟨D, 0, none⟩), kv2, fv2, .map (some M)] := by
    obtain ⟨_, _, kv2, fv2, _, _, h2, _⟩ := hp9
    exact ⟨kv2, fv2, h2⟩
  obtain ⟨kv2, fv2, hb9⟩ := hb9
  have hkb9 := (HKB1.out.drew).only ho9 (fun e => by
    rcases e with e | e
    · exact Blk.ne_ HKB1.out HC1.out.blk (by decide) e
    · exact HKN.out e)
  have hz9 : w1.heap.size ≤ w9.heap.size := ho9.size
  have HP9 := Lib.hid hp9
  have HL9 := Lib.hid hl9.1
  have HM9 := Lib.hid hl9.2
  have HB9 := Lib.hid hb9
  have HKB9 := Lib.hid hkb9
  clear hp9 ho9 hl9 hb9 hkb9
  refine hK.out _ _ ⟨HB9.out.cell 4, HB9.out.cell 1, blk_range HKB9.out⟩ (fun hHeld => ?_)
  clear hK K
  conv => arg 8; simp only [Act.put, List.setIfInBounds_toArray, List.set_cons_zero, List.set_cons_succ]
  refine wpAnyH_ready (rs := [12]) (by kernel_rfl) (by simp) ?_
  refine AllReadyH.cons (o := ⟨some 76, _, _, _, _, _⟩) rfl (fun K hK => ?_) AllReadyH.nil
  go_simp
  go_at_call 29
  (with_reducible refine (lpb_any w9 B D rv5 r5 (pI : Int) HL9.out (by omega) (by have := HC1.out.us; have := HC1.out.sz; omega) (by rw [HC1.out.el, List.length_map]; omega)).mono ?_)
  rintro e w10 ⟨rfl, ho10, rv10, hl10⟩
  rw [HSR.out]
  have hb10 := HL9.out.blk_ne HB9.out (by decide) (by decide) ho10
  have hkb10 := HL9.out.blk_ne HKB9.out (by decide) (by decide) ho10
  have hm10 := map_only HM9.out ho10 HC1.out.foot_map.1
  have HO10 := Lib.hid ho10
  have HL10 := Lib.hid hl10
  have HB10 := Lib.hid hb10
  have HKB10 := Lib.hid hkb10
  have HM10 := Lib.hid hm10
  clear ho10 hl10 hb10 hkb10 hm10
  refine hK.out _ _ ⟨HB10.out.cell 4, HB10.out.cell 1, blk_range HKB10.out⟩ (fun hHeld => ?_)
  clear hK K
  conv => arg 8; simp only [Act.put, List.setIfInBounds_toArray, List.set_cons_zero, List.set_cons_succ]
  refine wpAnyH_ready (rs := [13]) (by kernel_rfl) (by simp) ?_
  refine AllReadyH.cons (o := ⟨none, _, _, _, _, _⟩) rfl (fun K hK => ?_) AllReadyH.nil
  refine step_put_key rfl (.tmp 67) (.tmp 68) (.tmp 76) (by rfl) M _ Dm5 (by rfl) HM10.out (by rw [HC1.out.mp.size]; omega) k (by rfl) sR hsb (by rfl) ?_
  intro w11 hm11 ht11
  have ho11 : Only (fun g => M = g) w10 w11 := (Only.of_grown ht11.grown).mono (fun g hg => Option.some.inj hg)
  have hnb : ∀ {g : Nat} {t : TypeId} {cs : Array Value}, Blk w10 g t cs → M ≠ g := by
    rintro g t cs hh rfl
    obtain ⟨es, c, hM⟩ := map_blk HM10.out
    unfold Blk at hh
    rw [hM] at hh
    cases hh
  have hb11 := HB10.out.only ho11 (hnb HB10.out)
  have hkb11 := HKB10.out.only ho11 (hnb HKB10.out)
  have HM11 := Lib.hid hm11
  have HO11 := Lib.hid ho11
  clear hm11 ht11 ho11 hnb
  refine hK.out _ _ ⟨hb11.cell 4, hb11.cell 1, blk_range hkb11⟩ (fun hHeld => ?_)
  clear hK K hb11 hkb11
  conv => arg 8; simp only [Act.put, List.setIfInBounds_toArray, List.set_cons_zero, List.set_cons_succ]
  refine wpAnyH_done (by kernel_rfl) ?_ _
  refine NoPanic.normal ?_
  go_wp2_with fail
  go_ret
  refine CPost.trans (Only.of_below _ HB4.out) (.inl rfl) (CPost.trans (HO1.out.mono (fun g hg => hg.mono)) (.inl rfl) (CPost.trans (kb1 := kv.ownBlock) (Only.of_below _ (below_drewN (Below.refl _ w1) 1)) (.inl rfl) ?_))
  exact push_end_add HC1D.out hzz HNO2.out HP9.out HO10.out (by rw [HPI.out]; exact HL10.out) HO11.out (by rw [HSR.out]; exact HM11.out)
end Go.Proofs.Ytegdchlbmjokmaa
