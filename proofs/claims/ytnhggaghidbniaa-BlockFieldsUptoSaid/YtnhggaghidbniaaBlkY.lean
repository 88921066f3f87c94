/- SameLists and SameBlock of what is equal; small. -/
import Derived.Test.YtnhggaghidbniaaBlkV
import Derived.Test.YtnhggaghidbniaaKeyEq
import Derived.BigQuiet
namespace Go.Proofs.Ytnhggaghidbniaa
open Go.RowKit
set_option linter.unusedVariables false
set_option linter.unusedSimpArgs false
open Wir

set_option maxRecDepth 100000 in
theorem same_lists (w : World) (v1 v2 : Value) (txs : List (List UInt8)) (h1 : TxsAt w v1 txs) (h2 : TxsAt w v2 txs) :
    Calls Try.prog 29 #[v1, v2] w fun e w' => e = .returned (.bool true) ∧ Below w.heap.size w w' := by
  obtain ⟨A1, c1, rfl, hc1, hm1, b1, o1, hA1, hr1⟩ := h1
  obtain ⟨A2, c2, rfl, hc2, hm2, b2, o2, hA2, hr2⟩ := h2
  obtain ⟨n, hn⟩ : ∃ n, txs.length = n := ⟨_, rfl⟩
  rw [hn] at hc1 hc2 hA1 hA2 ⊢
  have HN := Lib.hid hn
  have HA1 := Lib.hid hA1
  have HA2 := Lib.hid hA2
  have HR1 := Lib.hid hr1
  have HR2 := Lib.hid hr2
  clear hA1 hA2 hr1 hr2 hn
  go_enter Try.func29, Try.ntmps29
  go_wp2_with fail
  go_loopw [13] (fun i wr => ∃ k : Nat, k ≤ n ∧ i = .int .i64 (k : Int) ∧ Below w.heap.size w wr) (fun i _ => n - (intOf i).toNat)
  case atStart => exact ⟨0, by omega, rfl, Below.refl _ _⟩
  case round =>
    obtain ⟨k, hk, rfl, hb⟩ := hrel
    have HB := Lib.hid hb
    have hz := hb.size
    by_cases hlt : k < n
    · obtain ⟨b, hbk⟩ : ∃ b, txs[k]? = some b := ⟨_, List.getElem?_eq_getElem (by rw [HN.out]; exact hlt)⟩
      obtain ⟨u1, x0, s0⟩ := HR1.out k b hbk
      obtain ⟨u2, x1, s1⟩ := HR2.out k b hbk
      have y0 := (hb.cell (p := ⟨b1, o1 + k, none⟩) (World.block_lt_of_cell? w _ x0)).trans x0
      have y1 := (hb.cell (p := ⟨b2, o2 + k, none⟩) (World.block_lt_of_cell? w _ x1)).trans x1
      obtain rfl := HA1.out (by omega)
      obtain rfl := HA2.out (by omega)
      have HS0 := Lib.hid ((s0.below hb).below (belowDrewR (Below.refl _ _)))
      have HS1 := Lib.hid ((s1.below hb).below (belowDrewR (Below.refl _ _)))
      obtain ⟨E1, f1, he1, _⟩ := s0
      obtain ⟨E2, f2, he2, _⟩ := s1
      subst he1 he2
      obtain ⟨l, hl⟩ : ∃ l, b.length = l := ⟨_, rfl⟩
      rw [hl] at y0 y1 HS0 HS1
      have hki : (k : Int) < n := by omega
      clear hl hb x0 x1 hbk
      go_wp2_with fail
      go_region_law (go_simp; go_at_call 13; refine (same_bytes HS0.out HS1.out).mono ?_; rintro e w1 ⟨rfl, rfl⟩; rw [decide_eq_true rfl])
      all_goals
        go_wp2_with fail
        go_roundw
        case rel => exact ⟨k + 1, by omega, by go_num, belowDrewR HB.out⟩
        case measure => simp [intOf]; omega
    · obtain rfl : k = n := by omega
      clear hlt hb
      go_wp2_with fail
      go_ret
      exact ⟨rfl, HB.out⟩

/-! ### headers compared -/
theorem eqFields_all {P : Program} {d : Nat} {xs ys : Array Value} {W : World} : ∀ fs : List Field, (∀ q ∈ fs.map (fun f => (f.type, f.offset)), ∃ a b, (part q.1 xs q.2).run P W = .ok a W ∧ (part q.1 ys q.2).run P W = .ok b W ∧ (Op.equalIn d q.1 a b).run P W = .ok true W) → (Op.eqFields d xs ys fs).run P W = .ok true W
  | [], _ => by simp [Op.eqFields]
  | f :: fs, h => by
    have ih := eqFields_all fs (fun q hq => h q (by rw [List.map_cons]; exact List.mem_cons_of_mem _ hq))
    obtain ⟨a, b, h1, h2, h3⟩ := h (f.type, f.offset) (by rw [List.map_cons]; exact List.mem_cons_self ..)
    simp only [Op.eqFields, Sem.run_ite]
    split
    · simp only [Sem.run_bind, h1, h2, h3, Result.andThen_ok, Sem.run_ite, Bool.not_true, Bool.false_eq_true, if_false, ih]
    · exact ih
theorem hd_flds : (Try.prog.fieldsOf 25).toList.map (fun f => (f.type, f.offset)) = [(3, 0), (3, 1), (3, 2), (23, 3), (23, 35), (23, 67), (23, 99)] := by kernel_rfl
theorem hd_und : Try.prog.underlying 25 = some (.struct (Try.prog.fieldsOf 25)) := by kernel_rfl
theorem hd_held : Try.prog.stoodInHeld 25 = false := by kernel_rfl
theorem keyEq_in (w : World) (k : Ky) : (Op.equalIn 9999 23 (keyV k) (keyV k)).run Try.prog w = .ok true w := by
  obtain ⟨i, hi, hu⟩ := key_underlying
  show (Op.equalIn 9999 23 (.agg (bytesOf 32 k).toArray) (.agg (bytesOf 32 k).toArray)).run Try.prog w = _
  rw [run_equalIn_array w 9998 _ _ hu hi, cells_u8, eqItems_bytes w 9997 32 k k (List.range 32) (fun j hj => List.mem_range.mp hj)]
  simp
theorem run_hdEq (x : Hd) (W : World) : (binOp .eql 25 (.agg (hdCells x).toArray) (.agg (hdCells x).toArray)).run Try.prog W = .ok (.bool true) W := by
  have p0 : (part 3 (hdCells x).toArray 0).run Try.prog W = .ok (.int .i64 x.h) W := by kernel_rfl
  have p1 : (part 3 (hdCells x).toArray 1).run Try.prog W = .ok (.int .i64 x.t) W := by kernel_rfl
  have p2 : (part 3 (hdCells x).toArray 2).run Try.prog W = .ok (.int .i64 x.p) W := by kernel_rfl
  have p3 : (part 23 (hdCells x).toArray 3).run Try.prog W = .ok (keyV x.par) W := by kernel_rfl
  have p4 : (part 23 (hdCells x).toArray 35).run Try.prog W = .ok (keyV x.txs) W := by kernel_rfl
  have p5 : (part 23 (hdCells x).toArray 67).run Try.prog W = .ok (keyV x.app) W := by kernel_rfl
  have p6 : (part 23 (hdCells x).toArray 99).run Try.prog W = .ok (keyV x.res) W := by kernel_rfl
  have ei : ∀ n : Int, (Op.equalIn 9999 3 (.int .i64 n) (.int .i64 n)).run Try.prog W = .ok true W := fun n => by
    rw [run_equalIn_int (P := Try.prog) W 9998 3 .i64 .i64 n n Try.underlying3]
    simp
  rw [run_eql_struct, run_equalIn_struct W 9999 25 _ _ hd_und hd_held, eqFields_all]
  · rfl
  · rw [hd_flds]
    intro q hq
    simp only [List.mem_cons, List.not_mem_nil, or_false] at hq
    rcases hq with rfl | rfl | rfl | rfl | rfl | rfl | rfl
    · exact ⟨_, _, p0, p0, ei _⟩
    · exact ⟨_, _, p1, p1, ei _⟩
    · exact ⟨_, _, p2, p2, ei _⟩
    · exact ⟨_, _, p3, p3, keyEq_in _ _⟩
    · exact ⟨_, _, p4, p4, keyEq_in _ _⟩
    · exact ⟨_, _, p5, p5, keyEq_in _ _⟩
    · exact ⟨_, _, p6, p6, keyEq_in _ _⟩
set_option maxRecDepth 100000 in
set_option maxHeartbeats 4000000 in
attribute [local go_sem ↓] wp_load_hd in
theorem same_block (w : World) (x y : Hd) (tv1 tv2 : Value) (txs : List (List UInt8)) (hxy : hdCells y = hdCells x) (h1 : TxsAt w tv1 txs) (h2 : TxsAt w tv2 txs) :
    Calls Try.prog 15 #[blV x tv1, blV y tv2] w fun e w' => e = .returned (.bool true) ∧ Below w.heap.size w w' := by
  have e2 : blV y tv2 = blV x tv2 := by show Value.agg (blCells y tv2).toArray = Value.agg (blCells x tv2).toArray; unfold blCells; rw [hxy]
  rw [e2]
  have o1 := h1.oneCell
  have o2 := h2.oneCell
  have HT1 := Lib.hid h1
  have HT2 := Lib.hid h2
  obtain ⟨ca, hca⟩ : ∃ ca, (blCells x tv1).toArray = ca := ⟨_, rfl⟩
  obtain ⟨cb, hcb⟩ : ∃ cb, (blCells x tv2).toArray = cb := ⟨_, rfl⟩
  show Calls _ _ #[.agg (blCells x tv1).toArray, .agg (blCells x tv2).toArray] _ _
  rw [hca, hcb]
  have HCA := Lib.hid hca
  have HCB := Lib.hid hcb
  clear hca hcb h1 h2 e2 hxy o1 o2
  go_enter Try.func15, Try.ntmps15
  go_upto_region 1 with (fail)
  generalize hw1 : World.alloc (World.alloc _ _) _ = w1
  have hb1 : Below w.heap.size w w1 := by rw [← hw1]; exact ((Below.refl _ _).alloc (Nat.le_refl _) _).alloc (by simp) _
  have hk1 : Blk w1 w.heap.size 28 (blCells x tv1).toArray := by rw [← hw1, HCA.out]; exact Blk.alloc (heap_alloc_new _ _) _
  have hk2 : Blk w1 (w.heap.size + 1) 28 (blCells x tv2).toArray := by rw [← hw1, HCB.out]; exact heap_alloc_at _ _ _ (by simp)
  obtain ⟨g1, hg1⟩ : ∃ g1, w.heap.size = g1 := ⟨_, rfl⟩
  obtain ⟨g2, hg2⟩ : ∃ g2, g1 + 1 = g2 := ⟨_, rfl⟩
  rw [hg1, hg2] at hk2
  rw [hg1] at hk1
  rw [show (⟨w.heap.size, 0, none⟩ : Addr) = ⟨g1, 0, none⟩ by rw [hg1], show (⟨w.heap.size + 1, 0, none⟩ : Addr) = ⟨g2, 0, none⟩ by rw [hg1, hg2]]
  have r1 := bl_range hk1
  have r2 := bl_range hk2
  have q1 := aggOk_mk r1 (hdCells_len x)
  have q2 := loadN_eq r1 (hdCells_len x)
  have q3 := aggOk_mk r2 (hdCells_len x)
  have q4 := loadN_eq r2 (hdCells_len x)
  have c1 : w1.cell? ⟨g1, 131, none⟩ = some tv1 := bl_tv hk1
  have c2 : w1.cell? ⟨g2, 131, none⟩ = some tv2 := bl_tv hk2
  have heq := run_hdEq x
  have HB1 := Lib.hid hb1
  have HT1 := Lib.hid (HT1.out.below hb1)
  have HT2 := Lib.hid (HT2.out.below hb1)
  clear hw1 hb1 hk1 hk2 hg1 hg2 r1 r2
  go_wp2_with fail
  refine (same_lists w1 tv1 tv2 txs HT1.out HT2.out).mono ?_
  rintro e w2 ⟨rfl, hb2⟩
  have HB2 := Lib.hid (HB1.out.trans (hb2.mono HB1.out.size))
  clear hb2 q1 q2 q3 q4 c1 c2 heq
  go_wp2_with fail
  go_ret
  exact ⟨rfl, HB2.out⟩

/-! ### small -/
def lenSum (txs : List (List UInt8)) : Nat := (txs.map List.length).sum
theorem lenSum_take (txs : List (List UInt8)) {k : Nat} {b : List UInt8} (h : txs[k]? = some b) : lenSum (txs.take (k + 1)) = lenSum (txs.take k) + b.length := by
  obtain ⟨hl, e⟩ := List.getElem?_eq_some_iff.1 h
  unfold lenSum
  rw [List.take_succ_eq_append_getElem hl, e, List.map_append, List.sum_append]
  simp
theorem lenSum_le (txs : List (List UInt8)) (k : Nat) : lenSum (txs.take k) ≤ lenSum txs := by
  unfold lenSum
  have h : txs = txs.take k ++ txs.drop k := (List.take_append_drop k txs).symm
  conv => rhs; rw [h]
  rw [List.map_append, List.sum_append]
  omega
theorem lenSum_txs : ∀ txs : List (List UInt8), txsSum txs = lenSum txs + 20 * txs.length
  | [] => by simp [txsSum, fieldsSum, lenSum]
  | a :: l => by
    have ih := lenSum_txs l
    unfold txsSum lenSum at ih ⊢
    rw [List.map_cons, fieldsSum_cons, ih, List.map_cons, List.sum_cons, List.length_cons]
    show a.length + 20 + _ = _
    omega
set_option maxRecDepth 100000 in
set_option maxHeartbeats 4000000 in
theorem small_any (w : World) (x : Hd) (tv : Value) (txs : List (List UInt8)) (ht : TxsAt w tv txs) (hsz : lenSum txs + txs.length ≤ 4611686018427387904) :
    Calls Try.prog 8 #[blV x tv] w fun e w' => e = .returned (.bool (decide (txs.length + lenSum txs < 300))) ∧ Below w.heap.size w w' := by
  have o1 := ht.oneCell
  have HT := Lib.hid ht
  have HSZ := Lib.hid hsz
  obtain ⟨ca, hca⟩ : ∃ ca, (blCells x tv).toArray = ca := ⟨_, rfl⟩
  show Calls _ _ #[.agg (blCells x tv).toArray] _ _
  rw [hca]
  have HCA := Lib.hid hca
  clear hca ht o1 hsz
  go_enter Try.func8, Try.ntmps8
  go_upto_region 1 with (fail)
  generalize hw1 : World.alloc _ _ = w1
  have hb1 : Below w.heap.size w w1 := by rw [← hw1]; exact (Below.refl _ _).alloc (Nat.le_refl _) _
  have hk1 : Blk w1 w.heap.size 28 (blCells x tv).toArray := by rw [← hw1, HCA.out]; exact heap_alloc_new _ _
  obtain ⟨g, hg⟩ : ∃ g, w.heap.size = g := ⟨_, rfl⟩
  rw [hg] at hk1
  rw [show (⟨w.heap.size, 0, none⟩ : Addr) = ⟨g, 0, none⟩ by rw [hg]]
  have ctv : w1.cell? ⟨g, 131, none⟩ = some tv := bl_tv hk1
  have HT1 := Lib.hid (HT.out.below hb1)
  obtain ⟨A1, c1, htv, hc1, hm1, b1, o1, hA1, hr1⟩ := HT1.out
  obtain ⟨n, hn⟩ : ∃ n, txs.length = n := ⟨_, rfl⟩
  rw [htv, hn] at ctv
  rw [hn] at hc1 hA1
  have HN := Lib.hid hn
  have HA1 := Lib.hid hA1
  have HR1 := Lib.hid hr1
  have HB1 := Lib.hid hb1
  have hsz : lenSum txs + n ≤ 4611686018427387904 := by rw [← hn]; exact HSZ.out
  clear hA1 hr1 hn htv hb1 hk1 hw1 hg
  go_wp2_with fail
  clear ctv
  go_loopw [3, 12] (fun s i wr => ∃ k : Nat, k ≤ n ∧ i = .int .i64 (k : Int) ∧ s = .int .i64 ((n + lenSum (txs.take k) : Nat) : Int) ∧ w1 = wr) (fun _ i _ => n - (intOf i).toNat)
  case atStart => exact ⟨0, by omega, rfl, by simp [lenSum], rfl⟩
  case round =>
    obtain ⟨k, hk, rfl, rfl, rfl⟩ := hrel
    have hle := lenSum_le txs k
    by_cases hlt : k < n
    · obtain ⟨b, hbk⟩ : ∃ b, txs[k]? = some b := ⟨_, List.getElem?_eq_getElem (by rw [HN.out]; exact hlt)⟩
      obtain ⟨u1, x0, s0⟩ := HR1.out k b hbk
      have hle2 := lenSum_le txs (k + 1)
      rw [lenSum_take txs hbk] at hle2
      have HL2 := Lib.hid (lenSum_take txs hbk)
      obtain rfl := HA1.out (by omega)
      obtain ⟨E1, f1, he1, _⟩ := s0
      subst he1
      obtain ⟨l, hl⟩ : ∃ l, b.length = l := ⟨_, rfl⟩
      rw [hl] at x0 HL2 hle2
      obtain ⟨s, hs⟩ : ∃ s, lenSum (txs.take k) = s := ⟨_, rfl⟩
      rw [hs] at HL2 hle2 hle ⊢
      have hki : (k : Int) < n := by omega
      have g1 : IntKind.i64.wrap (((n + s : Nat) : Int) + (l : Int)) = ((n + s + l : Nat) : Int) := by rw [show ((n + s : Nat) : Int) + (l : Int) = ((n + s + l : Nat) : Int) by omega]; exact IntWalk.i64_in _ (by omega)
      clear hl hbk hs
      obtain ⟨ns, hns⟩ : ∃ ns, n + s = ns := ⟨_, rfl⟩
      rw [hns] at g1 ⊢
      have HNS := Lib.hid hns
      clear hns
      go_wp2_with fail
      go_roundw
      case rel => exact ⟨k + 1, by omega, by go_num, by rw [HL2.out, ← Nat.add_assoc, HNS.out, Int.natCast_add], trivial⟩
      case measure => simp [intOf]; omega
    · obtain rfl : k = n := by omega
      have hat : txs.take k = txs := List.take_of_length_le (by rw [HN.out]; exact Nat.le_refl _)
      rw [hat]
      obtain ⟨s, hs⟩ : ∃ s, k + lenSum txs = s := ⟨_, rfl⟩
      have HS := Lib.hid hs
      rw [hs]
      clear hlt hat hs hle
      by_cases h3 : s < 300
      · have h3i : (s : Int) < 300 := by omega
        go_wp2_with fail
        go_ret
        refine ⟨?_, HB1.out⟩
        rw [HN.out, HS.out, decide_eq_true h3]
        first | rfl | simp
      · have h3i : ¬ (s : Int) < 300 := by omega
        go_wp2_with fail
        go_ret
        refine ⟨?_, HB1.out⟩
        rw [HN.out, HS.out, decide_eq_false h3]
        first | rfl | simp
end Go.Proofs.Ytnhggaghidbniaa
