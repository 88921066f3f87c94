/- The reference's reading of a field. -/
import Derived.Test.YtnhggaghidbniaaWirS
namespace Go.Proofs.Ytnhggaghidbniaa
open Go.RowKit
set_option linter.unusedVariables false
set_option linter.unusedSimpArgs false
open Wir
theorem row_far {a w : World} {g g2 : Nat} {cs2 : Array Value} {t2 : TypeId} (hb : Below a.heap.size a w) (hg : a.heap.size ≤ g) (hk : Blk w g2 t2 cs2) (hne : g2 ≠ g) (cs : Array Value) : Blk (w.setRow g cs) g2 t2 cs2 := by
  unfold Blk
  simp only [World.setRow, Array.getElem?_modify]
  rw [if_neg (Ne.symm hne)]
  exact hk

set_option maxRecDepth 100000 in
set_option maxHeartbeats 4000000 in
theorem rone_any (w : World) (v : Value) (b : List UInt8) (hs : SeeB w v b) (hb : b.length ≤ 1073741824) :
    Calls Try.prog 32 #[v] w (FRead w (readF b)) := by
  have HS := Lib.hid hs
  have hlen := hs.len_
  clear hs
  go_enter Try.func32, Try.ntmps32
  go_upto_region 1 with (fail)
  generalize hw1 : World.alloc _ _ = w1
  have HB1 : Hid (Below w.heap.size w w1) := Lib.hid (by rw [← hw1]; exact (Below.refl _ _).alloc (Nat.le_refl _) _)
  have hk1 : Blk w1 w.heap.size 50 #[.int .i64 0, .int .i64 0, .int .u64 0, .slice none 0 0] := by rw [← hw1]; exact fld_new w
  obtain ⟨g, hg⟩ : ∃ g, w.heap.size = g := ⟨_, rfl⟩
  have HGG : Hid (w.heap.size ≤ g) := Lib.hid (by omega)
  rw [hg] at hk1 ⊢
  have HK1 := Lib.hid hk1
  have HS1 := Lib.hid (HS.out.below HB1.out)
  have HS0 := HS
  clear hw1 hk1 hg HS
  cases hV : readV b with
  | bad c =>
    have hc := readV_bad hV
    rcases hc with rfl | rfl | rfl
    · go_wp2_with fail
      refine (rread_bad HS1.out hV).mono ?_
      rintro e w2 ⟨rfl, rfl⟩
      go_wp2_with (refine wpList_store_rowTo rfl 50 (.tmp 2) (.tmp 20) rfl rfl g #[.int .i64 0, .int .i64 0, .int .u64 0, .slice none 0 0] rfl rfl _ _ HK1.out (by kernel_rfl) rfl (by kernel_rfl) ?_)
      generalize hwz : World.setRow _ _ _ = wz
      obtain ⟨hbz, hkz⟩ : Below w.heap.size w wz ∧ Blk wz g 50 #[.int .i64 0, .int .i64 0, .int .u64 0, .slice none 0 0] := by
        rw [← hwz]
        exact row_step HB1.out HGG.out HK1.out _
      clear hwz
      refine bodyPost_ret (results_cell_tmp2 rfl _ _ g _ _ (0, 0) _ rfl hkz Try.underlying50 rfl (by kernel_rfl)) rfl ⟨hbz, ?_⟩
      rw [readF_bad1 hV]
      exact ⟨by decide, rfl⟩
    · go_wp2_with fail
      refine (rread_bad HS1.out hV).mono ?_
      rintro e w2 ⟨rfl, rfl⟩
      go_wp2_with (refine wpList_store_rowTo rfl 50 (.tmp 2) (.tmp 20) rfl rfl g #[.int .i64 0, .int .i64 0, .int .u64 0, .slice none 0 0] rfl rfl _ _ HK1.out (by kernel_rfl) rfl (by kernel_rfl) ?_)
      generalize hwz : World.setRow _ _ _ = wz
      obtain ⟨hbz, hkz⟩ : Below w.heap.size w wz ∧ Blk wz g 50 #[.int .i64 0, .int .i64 0, .int .u64 0, .slice none 0 0] := by
        rw [← hwz]
        exact row_step HB1.out HGG.out HK1.out _
      clear hwz
      refine bodyPost_ret (results_cell_tmp2 rfl _ _ g _ _ (0, 0) _ rfl hkz Try.underlying50 rfl (by kernel_rfl)) rfl ⟨hbz, ?_⟩
      rw [readF_bad1 hV]
      exact ⟨by decide, rfl⟩
    · go_wp2_with fail
      refine (rread_bad HS1.out hV).mono ?_
      rintro e w2 ⟨rfl, rfl⟩
      go_wp2_with (refine wpList_store_rowTo rfl 50 (.tmp 2) (.tmp 20) rfl rfl g #[.int .i64 0, .int .i64 0, .int .u64 0, .slice none 0 0] rfl rfl _ _ HK1.out (by kernel_rfl) rfl (by kernel_rfl) ?_)
      generalize hwz : World.setRow _ _ _ = wz
      obtain ⟨hbz, hkz⟩ : Below w.heap.size w wz ∧ Blk wz g 50 #[.int .i64 0, .int .i64 0, .int .u64 0, .slice none 0 0] := by
        rw [← hwz]
        exact row_step HB1.out HGG.out HK1.out _
      clear hwz
      refine bodyPost_ret (results_cell_tmp2 rfl _ _ g _ _ (0, 0) _ rfl hkz Try.underlying50 rfl (by kernel_rfl)) rfl ⟨hbz, ?_⟩
      rw [readF_bad1 hV]
      exact ⟨by decide, rfl⟩
  | ok n s =>
    obtain ⟨n64, hs1, hsb, _, hs0⟩ := readV_inv hV
    clear hs1
    obtain ⟨K, hK⟩ : ∃ K, n % 8 = K := ⟨_, rfl⟩
    obtain ⟨N, hN⟩ : ∃ N, n / 8 = N := ⟨_, rfl⟩
    have a6 : (n : Int) % 8 = (K : Int) := by omega
    have a7 : (n : Int) / 8 = (N : Int) := by omega
    have a6t : Int.tmod (n : Int) 8 = (K : Int) := by rw [Int.tmod_eq_emod_of_nonneg (by omega)]; exact a6
    have a7t : Int.tdiv (n : Int) 8 = (N : Int) := by rw [Int.tdiv_eq_ediv_of_nonneg (by omega)]; exact a7
    have hK8 : K < 8 := by omega
    have HK := Lib.hid hK
    have HN := Lib.hid hN
    have hN60 : N < 2305843009213693952 := by omega
    have a8 : IntKind.i64.wrap (K : Int) = (K : Int) := IntWalk.i64_in _ (by omega)
    have a10 : IntKind.i64.wrap (N : Int) = (N : Int) := IntWalk.i64_in _ (by omega)
    have a11 : IntKind.u64.wrap (N : Int) = (N : Int) := by rw [IntKind.wrap_u64]; omega
    clear hK hN n64
    by_cases h1 : N < 1
    · have t1 : (N : Int) < 1 := by omega
      go_wp2_with fail
      refine (rread_ok HS1.out hV).mono ?_
      rintro e w2 ⟨rfl, rfl⟩
      go_wp2_with (refine wpList_store_rowTo rfl 50 (.tmp 2) (.tmp 41) rfl rfl g #[.int .i64 0, .int .i64 0, .int .u64 0, .slice none 0 0] rfl rfl _ _ HK1.out (by kernel_rfl) rfl (by kernel_rfl) ?_)
      generalize hwz : World.setRow _ _ _ = wz
      obtain ⟨hbz, hkz⟩ : Below w.heap.size w wz ∧ Blk wz g 50 #[.int .i64 0, .int .i64 0, .int .u64 0, .slice none 0 0] := by
        rw [← hwz]
        exact row_step HB1.out HGG.out HK1.out _
      clear hwz
      refine bodyPost_ret (results_cell_tmp2 rfl _ _ g _ _ (0, 0) _ rfl hkz Try.underlying50 rfl (by kernel_rfl)) rfl ⟨hbz, ?_⟩
      rw [readF_bad2 hV (by rw [HK.out, HN.out]; exact .inl h1)]
      exact ⟨by decide, rfl⟩
    by_cases h2 : 536870911 < N
    · have t1 : ¬ (N : Int) < 1 := by omega
      have t2 : (536870911 : Int) < (N : Int) := by omega
      go_wp2_with fail
      refine (rread_ok HS1.out hV).mono ?_
      rintro e w2 ⟨rfl, rfl⟩
      go_wp2_with (refine wpList_store_rowTo rfl 50 (.tmp 2) (.tmp 41) rfl rfl g #[.int .i64 0, .int .i64 0, .int .u64 0, .slice none 0 0] rfl rfl _ _ HK1.out (by kernel_rfl) rfl (by kernel_rfl) ?_)
      generalize hwz : World.setRow _ _ _ = wz
      obtain ⟨hbz, hkz⟩ : Below w.heap.size w wz ∧ Blk wz g 50 #[.int .i64 0, .int .i64 0, .int .u64 0, .slice none 0 0] := by
        rw [← hwz]
        exact row_step HB1.out HGG.out HK1.out _
      clear hwz
      refine bodyPost_ret (results_cell_tmp2 rfl _ _ g _ _ (0, 0) _ rfl hkz Try.underlying50 rfl (by kernel_rfl)) rfl ⟨hbz, ?_⟩
      rw [readF_bad2 hV (by rw [HK.out, HN.out]; exact .inr (.inl h2))]
      exact ⟨by decide, rfl⟩
    by_cases h3 : ¬ (K = 0 ∨ K = 2)
    · have t1 : ¬ (N : Int) < 1 := by omega
      have t2 : ¬ (536870911 : Int) < (N : Int) := by omega
      have t3 : ((K : Int) == 0) = false := beq_eq_false_iff_ne.2 (by omega)
      have t4 : ((K : Int) == 2) = false := beq_eq_false_iff_ne.2 (by omega)
      have t5 : ((K : Int) != 0) = true := bne_iff_ne.2 (by omega)
      have t6 : ((K : Int) != 2) = true := bne_iff_ne.2 (by omega)
      go_wp2_with fail
      refine (rread_ok HS1.out hV).mono ?_
      rintro e w2 ⟨rfl, rfl⟩
      go_wp2_with (refine wpList_store_rowTo rfl 50 (.tmp 2) (.tmp 41) rfl rfl g #[.int .i64 0, .int .i64 0, .int .u64 0, .slice none 0 0] rfl rfl _ _ HK1.out (by kernel_rfl) rfl (by kernel_rfl) ?_)
      generalize hwz : World.setRow _ _ _ = wz
      obtain ⟨hbz, hkz⟩ : Below w.heap.size w wz ∧ Blk wz g 50 #[.int .i64 0, .int .i64 0, .int .u64 0, .slice none 0 0] := by
        rw [← hwz]
        exact row_step HB1.out HGG.out HK1.out _
      clear hwz
      refine bodyPost_ret (results_cell_tmp2 rfl _ _ g _ _ (0, 0) _ rfl hkz Try.underlying50 rfl (by kernel_rfl)) rfl ⟨hbz, ?_⟩
      rw [readF_bad2 hV (by rw [HK.out, HN.out]; exact .inr (.inr h3))]
      exact ⟨by decide, rfl⟩
    have t1 : ¬ (N : Int) < 1 := by omega
    have t2 : ¬ (536870911 : Int) < (N : Int) := by omega
    have HC : Hid (¬ (n / 8 < 1 ∨ 536870911 < n / 8 ∨ ¬ (n % 8 = 0 ∨ n % 8 = 2))) := Lib.hid (by rw [HK.out, HN.out]; omega)
    obtain ⟨v2, hv2, sl1, sl2⟩ := HS0.out.from_ hsb
    have HV2 := Lib.hid hv2
    clear hv2
    have hKK : K = 0 ∨ K = 2 := by omega
    clear h1 h2 h3
    rcases hKK with rfl | rfl
    · have a6 : (n : Int) % 8 = 0 := a6
      have a6t : Int.tmod (n : Int) 8 = 0 := a6t
      clear a8
      go_wp2_with fail
      refine (rread_ok HS1.out hV).mono ?_
      rintro e w2 ⟨rfl, rfl⟩
      go_upto_region 8 with (refine wpList_store_rowTo rfl 50 (.tmp 9) (.tmp 46) rfl rfl w1.heap.size #[.int .i64 (N : Int), .int .i64 0, .int .u64 0, .slice none 0 0] rfl rfl _ _ (fld_new w1) (by kernel_rfl) rfl (by kernel_rfl) ?_)
      generalize hw3 : World.setRow _ _ _ = w3
      have hba : Below w.heap.size w (w1.alloc (.cells #[.int .i64 0, .int .i64 0, .int .u64 0, .slice none 0 0] 50)) := HB1.out.alloc HB1.out.size _
      obtain ⟨hb3, hf3⟩ : Below w.heap.size w w3 ∧ Blk w3 w1.heap.size 50 #[.int .i64 (N : Int), .int .i64 0, .int .u64 0, .slice none 0 0] := by
        rw [← hw3]
        exact row_step hba HB1.out.size (fld_new w1) _
      have hk3 : Blk w3 g 50 #[.int .i64 0, .int .i64 0, .int .u64 0, .slice none 0 0] := by
        rw [← hw3]
        exact row_far hba HB1.out.size (HK1.out.alloc _) (Nat.ne_of_lt HK1.out.lt) _
      obtain ⟨g2, hg2⟩ : ∃ g2, w1.heap.size = g2 := ⟨_, rfl⟩
      have hgg : g ≠ g2 := by have := HK1.out.lt; omega
      have HG2 : Hid (w.heap.size ≤ g2) := Lib.hid (by have := HB1.out.size; omega)
      rw [hg2] at hf3 ⊢
      have HB3 := Lib.hid hb3
      have HK3 := Lib.hid hk3
      have HF3 := Lib.hid hf3
      have HV3 : Hid (SeeB w3 v2 (b.drop s)) := Lib.hid (HV2.out.below hb3)
      clear hw3 hb3 hk3 hf3 hba hg2
      cases hV2 : readV (b.drop s) with
      | bad c =>
        have hc := readV_bad hV2
        rcases hc with rfl | rfl | rfl
        · go_wp2_with fail
          refine (rread_bad HV3.out hV2).mono ?_
          rintro e w4 ⟨rfl, rfl⟩
          go_wp2_with (refine wpList_store_rowTo rfl 50 (.tmp 2) (.tmp 57) rfl rfl g #[.int .i64 0, .int .i64 0, .int .u64 0, .slice none 0 0] rfl rfl _ _ HK3.out (by kernel_rfl) rfl (by kernel_rfl) ?_)
          generalize hwz : World.setRow _ _ _ = wz
          obtain ⟨hbz, hkz⟩ : Below w.heap.size w wz ∧ Blk wz g 50 #[.int .i64 0, .int .i64 0, .int .u64 0, .slice none 0 0] := by
            rw [← hwz]
            exact row_step HB3.out HGG.out HK3.out _
          clear hwz
          refine bodyPost_ret (results_cell_tmp2 rfl _ _ g _ _ (0, 0) _ rfl hkz Try.underlying50 rfl (by kernel_rfl)) rfl ⟨hbz, ?_⟩
          rw [readF_bad3 hV HC.out hV2]
          exact ⟨by decide, rfl⟩
        · go_wp2_with fail
          refine (rread_bad HV3.out hV2).mono ?_
          rintro e w4 ⟨rfl, rfl⟩
          go_wp2_with (refine wpList_store_rowTo rfl 50 (.tmp 2) (.tmp 57) rfl rfl g #[.int .i64 0, .int .i64 0, .int .u64 0, .slice none 0 0] rfl rfl _ _ HK3.out (by kernel_rfl) rfl (by kernel_rfl) ?_)
          generalize hwz : World.setRow _ _ _ = wz
          obtain ⟨hbz, hkz⟩ : Below w.heap.size w wz ∧ Blk wz g 50 #[.int .i64 0, .int .i64 0, .int .u64 0, .slice none 0 0] := by
            rw [← hwz]
            exact row_step HB3.out HGG.out HK3.out _
          clear hwz
          refine bodyPost_ret (results_cell_tmp2 rfl _ _ g _ _ (0, 0) _ rfl hkz Try.underlying50 rfl (by kernel_rfl)) rfl ⟨hbz, ?_⟩
          rw [readF_bad3 hV HC.out hV2]
          exact ⟨by decide, rfl⟩
        · go_wp2_with fail
          refine (rread_bad HV3.out hV2).mono ?_
          rintro e w4 ⟨rfl, rfl⟩
          go_wp2_with (refine wpList_store_rowTo rfl 50 (.tmp 2) (.tmp 57) rfl rfl g #[.int .i64 0, .int .i64 0, .int .u64 0, .slice none 0 0] rfl rfl _ _ HK3.out (by kernel_rfl) rfl (by kernel_rfl) ?_)
          generalize hwz : World.setRow _ _ _ = wz
          obtain ⟨hbz, hkz⟩ : Below w.heap.size w wz ∧ Blk wz g 50 #[.int .i64 0, .int .i64 0, .int .u64 0, .slice none 0 0] := by
            rw [← hwz]
            exact row_step HB3.out HGG.out HK3.out _
          clear hwz
          refine bodyPost_ret (results_cell_tmp2 rfl _ _ g _ _ (0, 0) _ rfl hkz Try.underlying50 rfl (by kernel_rfl)) rfl ⟨hbz, ?_⟩
          rw [readF_bad3 hV HC.out hV2]
          exact ⟨by decide, rfl⟩
      | ok q m =>
        obtain ⟨q64, hm1, hmb, _, hm0⟩ := readV_inv hV2
        clear hm1
        rw [List.length_drop] at hmb
        obtain ⟨t, ht⟩ : ∃ t, s + m = t := ⟨_, rfl⟩
        have HT := Lib.hid ht
        have htb : t ≤ b.length := by omega
        have gt : IntKind.i64.wrap ((s : Int) + (m : Int)) = (t : Int) := by rw [show (s : Int) + m = ((s + m : Nat) : Int) by omega, ht]; exact IntWalk.i64_in _ (by omega)
        clear ht hmb htb hm0 q64
        have c0 := HF3.out.cell 0
        have c1 := HF3.out.cell 1
        have c2 := HF3.out.cell 2
        have c3 := HF3.out.cell 3
        have f2 := HF3.out.frozen 2
        have f3 := HF3.out.frozen 3
        simp only [List.getElem?_toArray, List.getElem?_cons_zero, List.getElem?_cons_succ] at c0 c1 c2 c3
        go_wp2_with fail
        refine (rread_ok HV3.out hV2).mono ?_
        rintro e w4 ⟨rfl, rfl⟩
        go_upto_region 13 with (fail)
        generalize hw5 : World.setCell _ _ _ = w5
        have hb5 : Below w.heap.size w w5 := by rw [← hw5]; exact HB3.out.setCell HG2.out _
        have hf5 : Blk w5 g2 50 #[.int .i64 (N : Int), .int .i64 0, .int .u64 (q : Int), .slice none 0 0] := by rw [← hw5]; exact HF3.out.set_ 2 _
        have hk5 : Blk w5 g 50 #[.int .i64 0, .int .i64 0, .int .u64 0, .slice none 0 0] := by rw [← hw5]; exact HK3.out.far hgg _
        have HB5 := Lib.hid hb5
        have HK5 := Lib.hid hk5
        have HF5 := Lib.hid hf5
        clear hw5 hb5 hk5 hf5 c0 c1 c2 c3 f2 f3
        have c0 := HF5.out.cell 0
        have c1 := HF5.out.cell 1
        have c2 := HF5.out.cell 2
        have c3 := HF5.out.cell 3
        have f2 := HF5.out.frozen 2
        have f3 := HF5.out.frozen 3
        simp only [List.getElem?_toArray, List.getElem?_cons_zero, List.getElem?_cons_succ] at c0 c1 c2 c3
        go_wp2_with (refine wpList_store_rowTo rfl 50 (.tmp 2) (.tmp 63) rfl rfl g #[.int .i64 (N : Int), .int .i64 0, .int .u64 (q : Int), .slice none 0 0] rfl rfl _ _ HK5.out (by kernel_rfl) rfl (by kernel_rfl) ?_)
        generalize hwz : World.setRow _ _ _ = wz
        obtain ⟨hbz, hkz⟩ : Below w.heap.size w wz ∧ Blk wz g 50 #[.int .i64 (N : Int), .int .i64 0, .int .u64 (q : Int), .slice none 0 0] := by
          rw [← hwz]
          exact row_step HB5.out HGG.out HK5.out _
        clear hwz
        refine bodyPost_ret (results_cell_tmp2 rfl _ _ g _ _ (0, 0) _ rfl hkz Try.underlying50 rfl (by kernel_rfl)) rfl ⟨hbz, ?_⟩
        rw [readF_num hV HC.out hV2 HK.out, HN.out, HT.out]
        exact ⟨_, rfl, OwnB.nil _ _⟩
    · have a6 : (n : Int) % 8 = 2 := a6
      have a6t : Int.tmod (n : Int) 8 = 2 := a6t
      clear a8
      go_wp2_with fail
      refine (rread_ok HS1.out hV).mono ?_
      rintro e w2 ⟨rfl, rfl⟩
      go_upto_region 8 with (refine wpList_store_rowTo rfl 50 (.tmp 9) (.tmp 46) rfl rfl w1.heap.size #[.int .i64 (N : Int), .int .i64 2, .int .u64 0, .slice none 0 0] rfl rfl _ _ (fld_new w1) (by kernel_rfl) rfl (by kernel_rfl) ?_)
      generalize hw3 : World.setRow _ _ _ = w3
      have hba : Below w.heap.size w (w1.alloc (.cells #[.int .i64 0, .int .i64 0, .int .u64 0, .slice none 0 0] 50)) := HB1.out.alloc HB1.out.size _
      obtain ⟨hb3, hf3⟩ : Below w.heap.size w w3 ∧ Blk w3 w1.heap.size 50 #[.int .i64 (N : Int), .int .i64 2, .int .u64 0, .slice none 0 0] := by
        rw [← hw3]
        exact row_step hba HB1.out.size (fld_new w1) _
      have hk3 : Blk w3 g 50 #[.int .i64 0, .int .i64 0, .int .u64 0, .slice none 0 0] := by
        rw [← hw3]
        exact row_far hba HB1.out.size (HK1.out.alloc _) (Nat.ne_of_lt HK1.out.lt) _
      obtain ⟨g2, hg2⟩ : ∃ g2, w1.heap.size = g2 := ⟨_, rfl⟩
      have hgg : g ≠ g2 := by have := HK1.out.lt; omega
      have HG2 : Hid (w.heap.size ≤ g2) := Lib.hid (by have := HB1.out.size; omega)
      rw [hg2] at hf3 ⊢
      have HB3 := Lib.hid hb3
      have HK3 := Lib.hid hk3
      have HF3 := Lib.hid hf3
      have HV3 : Hid (SeeB w3 v2 (b.drop s)) := Lib.hid (HV2.out.below hb3)
      clear hw3 hb3 hk3 hf3 hba hg2
      cases hV2 : readV (b.drop s) with
      | bad c =>
        have hc := readV_bad hV2
        rcases hc with rfl | rfl | rfl
        · go_wp2_with fail
          refine (rread_bad HV3.out hV2).mono ?_
          rintro e w4 ⟨rfl, rfl⟩
          go_wp2_with (refine wpList_store_rowTo rfl 50 (.tmp 2) (.tmp 57) rfl rfl g #[.int .i64 0, .int .i64 0, .int .u64 0, .slice none 0 0] rfl rfl _ _ HK3.out (by kernel_rfl) rfl (by kernel_rfl) ?_)
          generalize hwz : World.setRow _ _ _ = wz
          obtain ⟨hbz, hkz⟩ : Below w.heap.size w wz ∧ Blk wz g 50 #[.int .i64 0, .int .i64 0, .int .u64 0, .slice none 0 0] := by
            rw [← hwz]
            exact row_step HB3.out HGG.out HK3.out _
          clear hwz
          refine bodyPost_ret (results_cell_tmp2 rfl _ _ g _ _ (0, 0) _ rfl hkz Try.underlying50 rfl (by kernel_rfl)) rfl ⟨hbz, ?_⟩
          rw [readF_bad3 hV HC.out hV2]
          exact ⟨by decide, rfl⟩
        · go_wp2_with fail
          refine (rread_bad HV3.out hV2).mono ?_
          rintro e w4 ⟨rfl, rfl⟩
          go_wp2_with (refine wpList_store_rowTo rfl 50 (.tmp 2) (.tmp 57) rfl rfl g #[.int .i64 0, .int .i64 0, .int .u64 0, .slice none 0 0] rfl rfl _ _ HK3.out (by kernel_rfl) rfl (by kernel_rfl) ?_)
          generalize hwz : World.setRow _ _ _ = wz
          obtain ⟨hbz, hkz⟩ : Below w.heap.size w wz ∧ Blk wz g 50 #[.int .i64 0, .int .i64 0, .int .u64 0, .slice none 0 0] := by
            rw [← hwz]
            exact row_step HB3.out HGG.out HK3.out _
          clear hwz
          refine bodyPost_ret (results_cell_tmp2 rfl _ _ g _ _ (0, 0) _ rfl hkz Try.underlying50 rfl (by kernel_rfl)) rfl ⟨hbz, ?_⟩
          rw [readF_bad3 hV HC.out hV2]
          exact ⟨by decide, rfl⟩
        · go_wp2_with fail
          refine (rread_bad HV3.out hV2).mono ?_
          rintro e w4 ⟨rfl, rfl⟩
          go_wp2_with (refine wpList_store_rowTo rfl 50 (.tmp 2) (.tmp 57) rfl rfl g #[.int .i64 0, .int .i64 0, .int .u64 0, .slice none 0 0] rfl rfl _ _ HK3.out (by kernel_rfl) rfl (by kernel_rfl) ?_)
          generalize hwz : World.setRow _ _ _ = wz
          obtain ⟨hbz, hkz⟩ : Below w.heap.size w wz ∧ Blk wz g 50 #[.int .i64 0, .int .i64 0, .int .u64 0, .slice none 0 0] := by
            rw [← hwz]
            exact row_step HB3.out HGG.out HK3.out _
          clear hwz
          refine bodyPost_ret (results_cell_tmp2 rfl _ _ g _ _ (0, 0) _ rfl hkz Try.underlying50 rfl (by kernel_rfl)) rfl ⟨hbz, ?_⟩
          rw [readF_bad3 hV HC.out hV2]
          exact ⟨by decide, rfl⟩
      | ok q m =>
        obtain ⟨q64, hm1, hmb, _, hm0⟩ := readV_inv hV2
        clear hm1
        rw [List.length_drop] at hmb
        obtain ⟨t, ht⟩ : ∃ t, s + m = t := ⟨_, rfl⟩
        have HT := Lib.hid ht
        have htb : t ≤ b.length := by omega
        have gt : IntKind.i64.wrap ((s : Int) + (m : Int)) = (t : Int) := by rw [show (s : Int) + m = ((s + m : Nat) : Int) by omega, ht]; exact IntWalk.i64_in _ (by omega)
        obtain ⟨rl, hrl⟩ : ∃ rl, b.length - t = rl := ⟨_, rfl⟩
        have HRL := Lib.hid hrl
        have gs1 : IntKind.i64.wrap ((b.length : Int) - (s : Int)) = (b.length : Int) - (s : Int) := IntWalk.i64_in _ (by omega)
        have gs2 : IntKind.i64.wrap ((b.length : Int) - (s : Int) - (m : Int)) = (rl : Int) := by rw [show (b.length : Int) - (s : Int) - (m : Int) = (rl : Int) by omega]; exact IntWalk.i64_in _ (by omega)
        have gl : IntKind.u64.wrap (rl : Int) = (rl : Int) := by rw [IntKind.wrap_u64]; omega
        clear ht hmb hm0
        by_cases hsh : rl < q
        · have t5 : (rl : Int) < (q : Int) := by omega
          clear hrl
          go_wp2_with fail
          refine (rread_ok HV3.out hV2).mono ?_
          rintro e w4 ⟨rfl, rfl⟩
          go_wp2_with (refine wpList_store_rowTo rfl 50 (.tmp 2) (.tmp 76) rfl rfl g #[.int .i64 0, .int .i64 0, .int .u64 0, .slice none 0 0] rfl rfl _ _ HK3.out (by kernel_rfl) rfl (by kernel_rfl) ?_)
          generalize hwz : World.setRow _ _ _ = wz
          obtain ⟨hbz, hkz⟩ : Below w.heap.size w wz ∧ Blk wz g 50 #[.int .i64 0, .int .i64 0, .int .u64 0, .slice none 0 0] := by
            rw [← hwz]
            exact row_step HB3.out HGG.out HK3.out _
          clear hwz
          refine bodyPost_ret (results_cell_tmp2 rfl _ _ g _ _ (0, 0) _ rfl hkz Try.underlying50 rfl (by kernel_rfl)) rfl ⟨hbz, ?_⟩
          rw [readF_short hV HC.out hV2 (by rw [HK.out]; decide) (by rw [HT.out, List.length_drop, HRL.out]; exact hsh)]
          exact ⟨by decide, rfl⟩
        · have t5 : ¬ (rl : Int) < (q : Int) := by omega
          obtain ⟨y, hy⟩ : ∃ y, t + q = y := ⟨_, rfl⟩
          obtain ⟨v4, hv4, sn1, sn2⟩ := HS0.out.mid_ (k := t) (m := y) (by omega) (by omega)
          have hyt : y - t = q := by omega
          rw [hyt] at hv4
          have HV5 := Lib.hid hv4
          have HY := Lib.hid hy
          have gq : IntKind.i64.wrap (q : Int) = (q : Int) := IntWalk.i64_in _ (by omega)
          have gy : IntKind.i64.wrap ((t : Int) + (q : Int)) = (y : Int) := by rw [show (t : Int) + q = ((t + q : Nat) : Int) by omega, hy]; exact IntWalk.i64_in _ (by omega)
          clear hv4 hy hrl hyt
          go_wp2_with fail
          refine (rread_ok HV3.out hV2).mono ?_
          rintro e w4 ⟨rfl, rfl⟩
          have hz3 := HB3.out.size
          have hq30 : ((b.drop t).take q).length ≤ 1073741824 := by rw [List.length_take, List.length_drop]; omega
          obtain ⟨rest, hrest⟩ : ∃ rest, (b.drop t).take q = rest := ⟨_, rfl⟩
          rw [hrest] at HV5 hq30
          have HRE := Lib.hid hrest
          clear hrest
          go_upto_region 16 with (fail)
          go_wp2_with (at_builtin
                       refine halted ?_)
          change wpList _ _ _ _ _ _
          have hown0 : OwnB (w3.alloc (.cells #[] 5)) w.heap.size (.slice (some ⟨w3.heap.size, 0, none⟩) 0 0) [] :=
            ⟨rfl, .inr ⟨w3.heap.size, 0, #[], rfl, hz3, heap_alloc_new _ _, Nat.le_refl _, Nat.zero_le _, rfl, rfl⟩⟩
          have hbel : Below w.heap.size w (w3.alloc (.cells #[] 5)) := HB3.out.alloc hz3 _
          refine wpList_app_bytes rfl (.tmp 77) (.tmp 88) rfl w.heap.size _ [] rfl hown0 _ rest rfl (HV5.out.below hbel) (by simp; omega) hbel.size ?_
          intro u6 w6 ho6 hb6 hg6
          rw [List.nil_append] at ho6
          obtain ⟨A6, c6, he6⟩ := own_form (show w6.ownsRow w.heap.size 5 1 u6 _ _ from ho6)
          subst he6
          obtain ⟨l6, hl6⟩ : ∃ l6, rest.length = l6 := ⟨_, rfl⟩
          have ho6' : OwnB w6 w.heap.size (.slice A6 l6 c6) rest := by rw [← hl6]; exact ho6
          rw [hl6]
          have hb36 : Below w.heap.size w w6 := hbel.trans hb6
          have hk6 : Blk w6 g 50 #[.int .i64 0, .int .i64 0, .int .u64 0, .slice none 0 0] := (HK3.out.alloc _).grown hg6 (show some g ≠ some w3.heap.size from fun e => by have := HK3.out.lt; injection e with e; omega)
          have hf6 : Blk w6 g2 50 #[.int .i64 (N : Int), .int .i64 2, .int .u64 0, .slice none 0 0] := (HF3.out.alloc _).grown hg6 (show some g2 ≠ some w3.heap.size from fun e => by have := HF3.out.lt; injection e with e; omega)
          have HB6 := Lib.hid hb36
          have HK6 := Lib.hid hk6
          have HF6 := Lib.hid hf6
          have HO6 := Lib.hid ho6'
          clear ho6 ho6' hb6 hg6 hb36 hk6 hf6 hl6 hown0 hbel
          have c0 := HF6.out.cell 0
          have c1 := HF6.out.cell 1
          have c2 := HF6.out.cell 2
          have c3 := HF6.out.cell 3
          have f2 := HF6.out.frozen 2
          have f3 := HF6.out.frozen 3
          simp only [List.getElem?_toArray, List.getElem?_cons_zero, List.getElem?_cons_succ] at c0 c1 c2 c3
          go_upto_region 17 with (fail)
          generalize hw7 : World.setCell _ _ _ = w7
          have hb7 : Below w.heap.size w w7 := by rw [← hw7]; exact HB6.out.setCell HG2.out _
          have hf7 : Blk w7 g2 50 #[.int .i64 (N : Int), .int .i64 2, .int .u64 0, .slice A6 l6 c6] := by rw [← hw7]; exact HF6.out.set_ 3 _
          have hk7 : Blk w7 g 50 #[.int .i64 0, .int .i64 0, .int .u64 0, .slice none 0 0] := by rw [← hw7]; exact HK6.out.far hgg _
          have ho7 : OwnB w7 w.heap.size (.slice A6 l6 c6) rest := by
            rw [← hw7]
            exact OwnB.far HO6.out HF6.out _ _
          have HB7 := Lib.hid hb7
          have HK7 := Lib.hid hk7
          have HF7 := Lib.hid hf7
          have HO7 := Lib.hid ho7
          clear hw7 hb7 hk7 hf7 ho7 c0 c1 c2 c3 f2 f3
          have c0 := HF7.out.cell 0
          have c1 := HF7.out.cell 1
          have c2 := HF7.out.cell 2
          have c3 := HF7.out.cell 3
          have f2 := HF7.out.frozen 2
          have f3 := HF7.out.frozen 3
          simp only [List.getElem?_toArray, List.getElem?_cons_zero, List.getElem?_cons_succ] at c0 c1 c2 c3
          go_wp2_with (refine wpList_store_rowTo rfl 50 (.tmp 2) (.tmp 91) rfl rfl g #[.int .i64 (N : Int), .int .i64 2, .int .u64 0, .slice A6 l6 c6] rfl rfl _ _ HK7.out (by kernel_rfl) rfl (by kernel_rfl) ?_)
          generalize hwz : World.setRow _ _ _ = wz
          obtain ⟨hbz, hkz⟩ : Below w.heap.size w wz ∧ Blk wz g 50 #[.int .i64 (N : Int), .int .i64 2, .int .u64 0, .slice A6 l6 c6] := by
            rw [← hwz]
            exact row_step HB7.out HGG.out HK7.out _
          have hoz : OwnB wz w.heap.size (.slice A6 l6 c6) rest := by
            rw [← hwz]
            exact OwnB.farRow HO7.out HK7.out _
          clear hwz
          refine bodyPost_ret (results_cell_tmp2 rfl _ _ g _ _ (0, 0) _ rfl hkz Try.underlying50 rfl (by kernel_rfl)) rfl ⟨hbz, ?_⟩
          rw [readF_byt hV HC.out hV2 (by rw [HK.out]; decide) (by rw [HT.out, List.length_drop, HRL.out]; exact hsh), HN.out, HT.out, HRE.out, HY.out]
          exact ⟨_, rfl, hoz⟩
end Go.Proofs.Ytnhggaghidbniaa
